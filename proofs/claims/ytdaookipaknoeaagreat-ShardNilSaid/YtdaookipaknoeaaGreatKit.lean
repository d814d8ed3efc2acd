/-
  What the proofs of contracts share: blocks, rows of cells, frames.
-/
import Derived.Test.YtdaookipaknoeaaGreatBase
import Derived.Laws.MakeOwn
import Derived.Below
namespace Go.Proofs.YtdaookipaknoeaaGreat
open Go
set_option linter.unusedVariables false

theorem Blk.lt {w : World} {b T : Nat} {cs : Array Value} (h : Blk w b T cs) : b < w.heap.size := lt_of_blk h

theorem Blk.cell {w : World} {b T i : Nat} {cs : Array Value} {v : Value} (h : Blk w b T cs) (hv : cs[i]? = some v) : w.cell? ⟨b, i, none⟩ = some v := by
  simp [World.cell?, h, hv]

theorem Blk.dcell {w : World} {b T i : Nat} {cs : Array Value} {v : Value} (h : Blk w b T cs) (hv : cs[i]? = some v) : w.drew.cell? ⟨b, i, none⟩ = some v := h.cell hv

theorem cell_blk {w : World} {b T : Nat} {cs : Array Value} (h : Blk w b T cs) (i : Nat) : w.cell? ⟨b, i, none⟩ = cs[i]? := by simp [World.cell?, h]

theorem Addr.add_mk (b off n : Nat) : (⟨b, off, none⟩ : Addr).add n = ⟨b, off + n, none⟩ := by unfold Addr.add; split <;> simp_all
theorem Addr.add_add (a : Addr) (n m : Nat) : (a.add n).add m = a.add (n + m) := by
  unfold Addr.add
  by_cases h1 : n = 0 <;> by_cases h2 : m = 0 <;> simp_all [Nat.add_assoc]
theorem Addr.add_block (a : Addr) (n : Nat) : (a.add n).block = a.block := by unfold Addr.add; split <;> rfl

theorem Blk.loads {w : World} {b T off n : Nat} {cs : Array Value} (h : Blk w b T cs) (hs : off + n ≤ cs.size) : LoadsA w ⟨b, off, none⟩ n (cs.extract off (off + n)) := by
  refine ⟨by simp; omega, fun j hj => ?_⟩
  rw [Addr.add_mk, cell_blk h, Array.getElem?_extract, if_pos (by omega)]

theorem Blk.loads0 {w : World} {b T n : Nat} {cs : Array Value} (h : Blk w b T cs) (hs : n = cs.size) : LoadsA w ⟨b, 0, none⟩ n cs := by
  subst hs
  refine ⟨rfl, fun j hj => ?_⟩
  rw [Addr.add_mk, cell_blk h, Nat.zero_add]

namespace Fr
variable {S S' : Nat → Prop} {w w1 w2 : World}

theorem refl (S : Nat → Prop) (w : World) : Fr S w w := ⟨Nat.le_refl _, fun _ _ _ => rfl, rfl, rfl, rfl⟩
theorem trans (h : Fr S w w1) (k : Fr S w1 w2) : Fr S w w2 :=
  ⟨Nat.le_trans h.size k.size, fun i hi hn => (k.blk i (Nat.lt_of_lt_of_le hi h.size) hn).trans (h.blk i hi hn), k.os.trans h.os, k.tape.trans h.tape, k.output.trans h.output⟩
theorem mono (h : Fr S w w1) (hS : ∀ i, i < w.heap.size → S i → S' i) : Fr S' w w1 :=
  ⟨h.size, fun i hi hn => h.blk i hi fun hs => hn (hS i hi hs), h.os, h.tape, h.output⟩
theorem drew (S : Nat → Prop) (w : World) : Fr S w w.drew := ⟨Nat.le_refl _, fun _ _ _ => rfl, rfl, rfl, rfl⟩
theorem get (h : Fr S w w1) {b : Nat} {o : Obj} (hb : w.heap[b]? = some o) (hn : ¬ S b) : w1.heap[b]? = some o := (h.blk b (lt_of_blk hb) hn).trans hb
theorem b (h : Fr S w w1) {k T : Nat} {cs : Array Value} (hb : Blk w k T cs) (hn : ¬ S k) : Blk w1 k T cs := h.get hb hn
theorem ext (h : Ext w w1) (S : Nat → Prop) : Fr S w w1 := h.mono fun _ _ h => h.elim
theorem cell (h : Fr S w w1) {a : Addr} {v : Value} (hc : w.cell? a = some v) (hn : ¬ S a.block) : w1.cell? a = some v := by
  unfold World.cell? at *
  cases hb : w.heap[a.block]? with
  | none => rw [hb] at hc; cases hc
  | some o => rw [h.get hb hn]; rw [hb] at hc; exact hc
/-- two steps, the second on what the first may change or what is new -/
theorem then_ (h : Fr S w w1) (k : Fr S' w1 w2) (hS : ∀ i, i < w.heap.size → S' i → S i) : Fr S w w2 :=
  ⟨Nat.le_trans h.size k.size, fun i hi hn => (k.blk i (Nat.lt_of_lt_of_le hi h.size) fun hs => hn (hS i hi hs)).trans (h.blk i hi hn), k.os.trans h.os, k.tape.trans h.tape, k.output.trans h.output⟩
theorem trans_ext (h : Ext w w1) (k : Fr S' w1 w2) : Fr S' w w2 := (h.ext S').trans k
theorem below (h : Ext w w1) : RowKit.Below w.heap.size w w1 := ⟨h.os, h.tape, h.output, h.size, fun k hk => h.blk k hk id⟩
theorem dl (h : Fr S w.drew w1) : Fr S w w1 := ⟨h.size, h.blk, h.os, h.tape, h.output⟩
theorem dr (h : Fr S w w1) : Fr S w w1.drew := ⟨h.size, h.blk, h.os, h.tape, h.output⟩
theorem lt (h : Fr S w w1) {b : Nat} (hb : b < w.heap.size) : b < w1.heap.size := Nat.lt_of_lt_of_le hb h.size
end Fr

/-- the cells from A on -/
def Row (w : World) (A : Option Addr) (cs : List Value) : Prop := ∀ i v, cs[i]? = some v → ∃ x, A = some x ∧ w.cell? (x.add i) = some v

theorem Row.frame {S : Nat → Prop} {w w1 : World} {A : Option Addr} {cs : List Value} (h : Row w A cs) (f : Fr S w w1) (hn : ∀ x, A = some x → ¬ S x.block) : Row w1 A cs := fun i v hv => by
  obtain ⟨x, hx, hc⟩ := h i v hv
  exact ⟨x, hx, f.cell hc (by rw [Addr.add_block]; exact hn x hx)⟩

theorem Row.nil (w : World) (A : Option Addr) : Row w A [] := fun i v h => by simp at h

theorem cell_lt {w : World} {a : Addr} {v : Value} (h : w.cell? a = some v) : a.block < w.heap.size := by
  unfold World.cell? at h
  split at h
  · rename_i hb; exact lt_of_blk hb
  · cases h

theorem setL_toList (vs : List Value) : ∀ (cs : Array Value) (off : Nat), off + vs.length ≤ cs.size → (setL cs off vs).toList = cs.toList.take off ++ vs ++ cs.toList.drop (off + vs.length) := by
  induction vs with
  | nil => intro cs off _; simp [setL]
  | cons v vs ih =>
    intro cs off h
    simp only [List.length_cons] at h
    have hlt : off < cs.size := by omega
    simp only [setL]
    rw [ih _ _ (by simp; omega)]
    have e : (cs.setIfInBounds off v).toList = cs.toList.set off v := by simp
    rw [e, List.take_add_one, List.getElem?_set_self (by simpa using hlt), List.take_set_of_le (Nat.le_refl _), List.drop_set_of_lt (by omega)]
    simp only [List.length_cons, Option.toList_some, List.append_assoc, List.singleton_append]
    rw [show off + 1 + vs.length = off + (vs.length + 1) by omega]

theorem setL_all {cs : Array Value} {vs : Array Value} (h : cs.size = vs.size) : setL cs 0 vs.toList = vs := by
  apply Array.toList_inj.1
  rw [setL_toList _ _ _ (by simp [h])]
  have : cs.toList.length = vs.toList.length := by simpa using h
  rw [List.take_zero, List.nil_append, Nat.zero_add, ← this, List.drop_length, List.append_nil]

theorem setL_list {cs : Array Value} {l : List Value} (h : cs.size = l.length) : setL cs 0 l = l.toArray := setL_all (vs := l.toArray) (by simpa using h)

/-- a store -/
theorem StoreQ.of {w : World} {b T off : Nat} {cs : Array Value} {vs : List Value} {C : World → Prop} (h : Blk w b T cs) (hs : off + vs.length ≤ cs.size) (ho : vs.all one = true)
    (H : ∀ w1, Blk w1 b T (setL cs off vs) → Fr (fun i => i = b) w w1 → w1.heap.size = w.heap.size → C w1) : StoreQ w ⟨b, off, none⟩ vs C :=
  ⟨cs, T, h, rfl, hs, ho, H⟩

theorem StoreQ.of1 {w : World} {b T off : Nat} {cs : Array Value} {v : Value} {C : World → Prop} (h : Blk w b T cs) (hs : off < cs.size) (ho : one v = true)
    (H : ∀ w1, Blk w1 b T (cs.setIfInBounds off v) → Fr (fun i => i = b) w w1 → w1.heap.size = w.heap.size → C w1) : StoreQ w ⟨b, off, none⟩ [v] C :=
  .of h hs (by simp [ho]) H

theorem madeCells_one (v : Value) (n : Nat) : madeCells #[v] n = Array.replicate n v := by
  apply Array.ext
  · simp [madeCells]
  · intro i h1 h2; simp [madeCells, Nat.mod_one]

/-- what a type's slice is made of -/
def makes (P : Program) (t e : TypeId) (z : Value) (size bytes : Nat) : Prop :=
  P.underlying t = some (.slice e) ∧ ∃ i, P.info? e = some i ∧ i.zero = some z ∧ i.size = size ∧ i.bytes = bytes

theorem makes.of {P : Program} {t e : TypeId} {z : Value} {size bytes : Nat} (h : P.underlying t = some (.slice e)) (h2 : (P.info? e).map (fun i => (i.zero, i.size, i.bytes)) = some (some z, size, bytes)) : makes P t e z size bytes := by
  obtain ⟨i, hi, h3⟩ := Option.map_eq_some_iff.1 h2
  simp only [Prod.mk.injEq] at h3
  exact ⟨h, i, hi, h3.1, h3.2.1, h3.2.2⟩

/-- a new slice of zeros -/
theorem make_slice {P : Program} {w : World} {t e : TypeId} {z : Value} {size bytes : Nat} (hm : makes P t e z size bytes) {n c : Int} (h0 : 0 ≤ n) (hc : n ≤ c) (hb : (bytes : Int) * c ≤ 281474976710656) (hc2 : c < 9223372036854775808) :
    ∃ w1, (Instr.makeSlice t (.int .i64 n) (.int .i64 c)).run P w = .ok (.slice (some ⟨w.heap.size, 0, none⟩) n.toNat c.toNat) w1 ∧ Blk w1 w.heap.size e (madeCells z.cells (c.toNat * size)) ∧ Ext w w1 := by
  obtain ⟨ht, i, hi, hz, rfl, rfl⟩ := hm
  exact ⟨_, run_make w t e i z ht hi hz .i64 .i64 n c h0 hc hb (by omega), by show (w.heap.push _)[w.heap.size]? = _; simp, by
    refine ⟨?_, fun k hk _ => ?_, rfl, rfl, rfl⟩
    · show w.heap.size ≤ (w.heap.push _).size; simp
    · show (w.heap.push _)[k]? = _; rw [Array.getElem?_push_lt hk, Array.getElem?_eq_getElem hk]⟩

theorem wrap_i64_id {n : Int} (h1 : -9223372036854775808 ≤ n) (h2 : n < 9223372036854775808) : IntKind.wrap .i64 n = n := by rw [IntKind.wrap_i64]; omega
theorem wrap_u64_id {n : Int} (h1 : 0 ≤ n) (h2 : n < 18446744073709551616) : IntKind.wrap .u64 n = n := by simp only [IntKind.wrap, IntKind.bits, IntKind.signed]; simp; omega

end Go.Proofs.YtdaookipaknoeaaGreat
