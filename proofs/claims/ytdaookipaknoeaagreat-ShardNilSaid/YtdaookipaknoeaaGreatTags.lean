/-
  Frames by the type of blocks; patched lists.
-/
import Derived.Test.YtdaookipaknoeaaGreatOwn
namespace Go.Proofs.YtdaookipaknoeaaGreat
open Go
set_option linter.unusedVariables false

/-- block i holds cells of one of these types -/
def Tg (w : World) (Ts : List Nat) (i : Nat) : Prop := ∃ T cs, Blk w i T cs ∧ T ∈ Ts

theorem Tg.not {w : World} {Ts : List Nat} {i T : Nat} {cs : Array Value} (hb : Blk w i T cs) (hn : T ∉ Ts) : ¬ Tg w Ts i := by
  rintro ⟨T', cs', h1, h2⟩
  unfold Blk at *
  rw [hb] at h1
  simp only [Option.some.injEq, Obj.cells.injEq] at h1
  rw [h1.2.1] at hn
  exact hn h2

theorem Tg.of {w : World} {Ts : List Nat} {i T : Nat} {cs : Array Value} (hb : Blk w i T cs) (hn : T ∈ Ts) : Tg w Ts i := ⟨T, cs, hb, hn⟩

/-- what is in F and of these types -/
def Mod (w : World) (F : Nat → Prop) (Ts rs : List Nat) (i : Nat) : Prop := F i ∧ (Tg w Ts i ∨ i ∈ rs)

/-- F and what is new -/
def Grow (F : Nat → Prop) (w w1 : World) (i : Nat) : Prop := F i ∨ (w.heap.size ≤ i ∧ i < w1.heap.size)

theorem Grow.mono {F : Nat → Prop} {w w1 w2 : World} (h : w1.heap.size ≤ w2.heap.size) {i : Nat} (hi : Grow F w w1 i) : Grow F w w2 i := by
  rcases hi with h1 | h1
  · exact .inl h1
  · exact .inr ⟨h1.1, Nat.lt_of_lt_of_le h1.2 h⟩

theorem Grow.trans {F : Nat → Prop} {w w1 w2 : World} (h : w.heap.size ≤ w1.heap.size) {i : Nat} (hi : Grow (Grow F w w1) w1 w2 i) (h2 : w1.heap.size ≤ w2.heap.size) : Grow F w w2 i := by
  rcases hi with h1 | h1
  · exact h1.mono h2
  · exact .inr ⟨Nat.le_trans h h1.1, h1.2⟩

namespace Fr
variable {w w1 w2 : World} {F : Nat → Prop} {Ts rs : List Nat}

theorem mod_then (h : Fr (Mod w F Ts rs) w w1) (k : Fr (Mod w1 (Grow F w w1) Ts rs) w1 w2) : Fr (Mod w F Ts rs) w w2 := by
  refine ⟨Nat.le_trans h.size k.size, fun i hi hn => ?_, k.os.trans h.os, k.tape.trans h.tape, k.output.trans h.output⟩
  have e := h.blk i hi hn
  refine (k.blk i (Nat.lt_of_lt_of_le hi h.size) fun hm => hn ?_).trans e
  obtain ⟨hF, hT⟩ := hm
  refine ⟨?_, ?_⟩
  · rcases hF with hF | hF
    · exact hF
    · omega
  · rcases hT with ⟨T, cs, hb, hT⟩ | hr
    · exact .inl ⟨T, cs, by unfold Blk at *; rw [← e]; exact hb, hT⟩
    · exact .inr hr

theorem mod_back (h : Fr (Mod w F Ts rs) w w1) {i : Nat} (hi : i < w.heap.size) (hF : F i) (ht : Tg w1 Ts i) : Mod w F Ts rs i := by
  by_cases hm : Mod w F Ts rs i
  · exact hm
  · have e := h.blk i hi hm
    obtain ⟨T, cs, hb, hT⟩ := ht
    exact ⟨hF, .inl ⟨T, cs, by unfold Blk at *; rw [← e]; exact hb, hT⟩⟩

theorem mod_ext (h : Ext w w1) : Fr (Mod w F Ts rs) w w1 := h.ext _

theorem mod_one {b T : Nat} {cs : Array Value} (hb : Blk w b T cs) (hF : F b) (hT : T ∈ Ts) (h : Fr (fun i => i = b) w w1) : Fr (Mod w F Ts rs) w w1 :=
  h.mono fun i _ e => by subst e; exact ⟨hF, .inl ⟨T, cs, hb, hT⟩⟩

theorem mod_sub {Us us : List Nat} {G : Nat → Prop} (h : Fr (Mod w F Ts rs) w w1) (hF : ∀ i, i < w.heap.size → F i → G i) (hT : ∀ T ∈ Ts, T ∈ Us) (hr : ∀ r ∈ rs, r ∈ us) : Fr (Mod w G Us us) w w1 :=
  h.mono fun i hi ⟨h1, h2⟩ => ⟨hF i hi h1, h2.imp (fun ⟨T, cs, hb, hT'⟩ => ⟨T, cs, hb, hT T hT'⟩) (hr i)⟩

theorem mod_keep (h : Fr (Mod w F Ts rs) w w1) {b T : Nat} {cs : Array Value} (hb : Blk w b T cs) (hn : T ∉ Ts) (hr : b ∉ rs) : Blk w1 b T cs :=
  h.get hb fun ⟨_, h2⟩ => h2.elim (Tg.not hb hn) hr

/-- a block that is not in F stays -/
theorem mod_out (h : Fr (Mod w F Ts rs) w w1) {b : Nat} {o : Obj} (hb : w.heap[b]? = some o) (hn : ¬ F b) : w1.heap[b]? = some o := h.get hb fun ⟨h1, _⟩ => hn h1
end Fr

/-- cells of a list are laid anew -/
def patch (xs : List Value) (k : Nat) (vs : List Value) : List Value := xs.take k ++ vs ++ xs.drop (k + vs.length)

theorem patch_length {xs : List Value} {k : Nat} {vs : List Value} (h : k + vs.length ≤ xs.length) : (patch xs k vs).length = xs.length := by
  unfold patch; simp; omega

theorem patch_get {xs : List Value} {k : Nat} {vs : List Value} (h : k + vs.length ≤ xs.length) (j : Nat) : (patch xs k vs)[j]? = if k ≤ j ∧ j < k + vs.length then vs[j - k]? else xs[j]? := by
  unfold patch
  rw [List.append_assoc, List.getElem?_append, List.length_take, Nat.min_eq_left (by omega)]
  split
  · rw [if_neg (by omega), List.getElem?_take, if_pos (by assumption)]
  · rw [List.getElem?_append]
    split
    · rw [if_pos (by omega)]
    · rw [if_neg (by omega), List.getElem?_drop]
      congr 1
      omega

theorem patch_in {xs : List Value} {k : Nat} {vs : List Value} (h : k + vs.length ≤ xs.length) {j : Nat} (hj : j < vs.length) : (patch xs k vs)[k + j]? = vs[j]? := by
  rw [patch_get h, if_pos (by omega)]; congr 1; omega

theorem patch_out {xs : List Value} {k : Nat} {vs : List Value} (h : k + vs.length ≤ xs.length) {j : Nat} (hj : j < k ∨ k + vs.length ≤ j) : (patch xs k vs)[j]? = xs[j]? := by
  rw [patch_get h, if_neg (by omega)]

theorem Own.storeAt {w : World} {e sz n c : Nat} {a : Addr} {xs : List Value} {C : World → Prop} (h : Own w e sz (some a) n c xs) {k : Nat} {vs : List Value} (hk : k + vs.length ≤ n * sz) (h0 : vs ≠ []) (ho : vs.all one = true)
    (H : ∀ w1, Own w1 e sz (some a) n c (patch xs k vs) → Fr (fun i => i = a.block) w w1 → w1.heap.size = w.heap.size → C w1) : StoreQ w (a.add k) vs C :=
  h.store hk h0 ho fun w1 h1 f s => H w1 h1 (f.mono fun i _ ⟨x, hx, e⟩ => by cases hx; exact e) s

theorem Own.cell {w : World} {e sz n c : Nat} {a : Addr} {xs : List Value} {k : Nat} {v : Value} (h : Own w e sz (some a) n c xs) (hv : xs[k]? = some v) : w.cell? (a.add k) = some v := by
  obtain ⟨x, hx, hc⟩ := h.row k v hv
  cases hx
  exact hc

theorem Own.blk {w : World} {e sz n c : Nat} {a : Addr} {xs : List Value} (h : Own w e sz (some a) n c xs) : a = ⟨a.block, 0, none⟩ ∧ ∃ cur, Blk w a.block e cur := by
  rcases h.cases with ⟨h', _⟩ | ⟨b, cur, h', h2, _⟩
  · cases h'
  · cases h'; exact ⟨rfl, cur, h2⟩

theorem Own.ex {w : World} {e sz : Nat} {A : Option Addr} {n c : Nat} {xs : List Value} (h : Own w e sz A n c xs) (hn : 0 < n) : ∃ a, A = some a := by
  rcases h.cases with ⟨_, h', _⟩ | ⟨b, cur, h', _⟩
  · omega
  · exact ⟨_, h'⟩

/-- an own slice stays, where only other types are changed -/
theorem Own.mod {w w1 : World} {F : Nat → Prop} {Ts rs : List Nat} {e sz : Nat} {A : Option Addr} {n c : Nat} {xs : List Value} (h : Own w e sz A n c xs) (f : Fr (Mod w F Ts rs) w w1) (hn : e ∉ Ts) (hr : ∀ x, A = some x → x.block ∉ rs) : Own w1 e sz A n c xs :=
  h.frame f fun x hx ⟨_, h2⟩ => by
    subst hx
    obtain ⟨_, cur, hb⟩ := h.blk
    exact h2.elim (Tg.not hb hn) (hr x rfl)

end Go.Proofs.YtdaookipaknoeaaGreat
