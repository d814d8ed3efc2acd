/-
  Texts of the pool, sums of weights, and the queue's Until and Weight.
-/
import Derived.Test.YtdaookipaknoeaaGreatQueue2
import Derived.Laws.Externs
import Derived.Laws.BytesArg
namespace Go.Proofs.YtdaookipaknoeaaGreat
open Go Go.MapKept
set_option linter.unusedVariables false

/-- the pool has the key under the number -/
def Named (s : Arn) (p : Pol) (id : Nat) (key : ByteArray) : Prop :=
  1 ≤ id ∧ ∃ e k t, p.ents[id]? = some e ∧ e.users ≠ 0 ∧ Live s e.c e.i k t ∧ t.age = e.age ∧ t.data = bytesOf key ∧ key.size ≤ 255

theorem text_of {w : World} {A : Option Addr} {n c : Nat} {key : ByteArray} (hn : n = key.size) (h : Own w 5 1 A n c ((bytesOf key).map (Value.int .u8))) :
    (convert 23 9 (.slice A n c)).run Tryz.prog w = .ok (.string key) w := by
  subst hn
  have hs : Tryz.prog.underlying 23 = some (.slice 5) := by kernel_rfl
  have he : Tryz.prog.underlying 5 = some (.int .u8) := by kernel_rfl
  have hd : Tryz.prog.underlying 9 = some .string := by kernel_rfl
  cases A with
  | none =>
    rcases h.cases with ⟨_, h1, h2, _⟩ | ⟨_, _, h1, _⟩
    · subst h2
      have hk : key = ⟨#[]⟩ := by
        obtain ⟨⟨l⟩⟩ := key
        have : l.length = 0 := h1
        rw [List.eq_nil_of_length_eq_zero this]
      subst hk
      exact run_convert_bytes_nil w 23 5 hs he 0 0 9 hd
    · cases h1
  | some a =>
    have := run_convert_bytes_back (P := Tryz.prog) w 23 9 5 a c key.data.toList hs he hd (fun j hj => by
      have hj' : (((bytesOf key).map (Value.int .u8)))[j]? = some (.int .u8 (key.data.toList[j].toNat : Int)) := by
        unfold bytesOf
        rw [List.getElem?_map, List.getElem?_map, List.getElem?_eq_getElem hj]
        rfl
      exact h.cell hj')
    rw [Array.length_toList] at this
    exact this

theorem pool_text {w : World} {F : Nat → Prop} {pb ab r id : Nat} {p : Pol} {s : Arn} {key : ByteArray} (hp : PoolAt w F pb ab r p) (ha : ArenaAt w F ab s) (hn : Named s p id key) :
    Calls Tryz.prog 100 #[.pointer (some ⟨pb, 0, none⟩), .int .i64 (id : Nat)] w fun e w1 => Ext w w1 ∧ e = .returned (.tuple #[.string key, .int .i64 0]) := by
  obtain ⟨h1, e, k, t, hid, hus, hlv, hage, hdat, hks⟩ := hn
  obtain ⟨EA, ec, hb, ho, hEF⟩ := hp.here
  obtain ⟨hil, hie⟩ := List.getElem?_eq_some_iff.1 hid
  have hplen := hp.len
  refine f100_vc ?_
  have htext : Calls Tryz.prog 162 #[.pointer (some ⟨pb, 0, none⟩), .int .i64 (id : Nat)] w fun e w1 => Ext w w1 ∧ e = .returned (.tuple #[.string key, .bool true]) := by
    obtain ⟨a, hEA⟩ := ho.ex (by omega)
    subst hEA
    obtain ⟨g1, g2, g3, g4⟩ := entCells_get p.ents id hil
    rw [hie] at g1 g2 g3 g4
    refine f162_vc (fun _ w' => w' = w) ?_ (CondQ.decF (by omega) ⟨_, _, _, hb.cell rfl, CondQ.decF (by omega) ⟨_, _, _, hb.cell rfl, by omega, ?_⟩⟩)
    · rintro w5 rfl
      refine ⟨_, hb.dcell rfl, _, _, _, hb.dcell rfl, by omega, #[.int .i64 (e.c : Nat), .int .i64 (e.i : Nat), .int .i64 e.age], ?_, ?_⟩
      · rw [Int.toNat_natCast]
        refine ⟨rfl, fun j hj => ?_⟩
        rw [Addr.add_add]
        match j, hj with
        | 0, _ => exact ho.cell g1
        | 1, _ => exact ho.cell g2
        | 2, _ => exact ho.cell g3
      · have hr := arena_read (w := w5.drew) (ha.ext (Fr.drew _ _)) hlv (by rw [hdat, bytesOf_length]; omega)
        rw [hage] at hr
        refine hr.mono ?_
        rintro e' w11 ⟨f11, A, c1, rfl, ho11⟩
        rw [hdat] at ho11 ⊢
        exact ⟨_, _, _, _, rfl, key, text_of (bytesOf_length key) ho11, f11.dl, rfl⟩
    · rw [Int.toNat_natCast]
      exact ⟨_, by rw [Addr.add_add]; exact ho.cell g4, CondQ.no (by simpa using hus) ⟨rfl, rfl, rfl⟩⟩
  refine htext.mono ?_
  rintro e' w2 ⟨f2, rfl⟩
  exact ⟨_, _, rfl, CondQ.no rfl ⟨f2, rfl⟩⟩

/-- the sum of two weights, with saturation -/
def satSum (a b : Int) : Int := if a + b < 18446744073709551616 then a + b else 18446744073709551615

theorem sat_add {w : World} {a b : Int} (ha : 0 ≤ a ∧ a < 18446744073709551616) (hb : 0 ≤ b ∧ b < 18446744073709551616) :
    Calls Tryz.prog 102 #[.int .u64 a, .int .u64 b] w fun e w1 => w1 = w ∧ e = .returned (.tuple #[.int .u64 (satSum a b), .bool (decide (a + b < 18446744073709551616))]) := by
  have hrun : (callFunc 163 #[.int .u64 a, .int .u64 b, .int .u64 0]).run Tryz.prog w = .ok (.value (.tuple #[.int .u64 ((a + b + 0) % 18446744073709551616), .int .u64 ((a + b + 0) / 18446744073709551616)])) w := by
    rw [run_callFunc_extern (e := add64Entry) Tryz.func163 (by kernel_rfl) (by kernel_rfl) (by kernel_rfl) (by kernel_rfl), run_add64 a b 0 ha.1 hb.1 (by omega) (by omega)]
    rfl
  refine f102_vc ⟨_, _, w, hrun, CondQ.bne (fun h => ⟨rfl, ?_⟩) (fun h => ⟨rfl, ?_⟩)⟩
  · have : ¬ a + b < 18446744073709551616 := by omega
    unfold satSum
    rw [if_neg this, decide_eq_false this]
  · have : a + b < 18446744073709551616 := by omega
    unfold satSum
    rw [if_pos this, decide_eq_true this, show (a + b + 0) % 18446744073709551616 = a + b by omega]

theorem queue_until {w : World} {F : Nat → Prop} {qb ab pb cap : Nat} {l : List Wt} {window : Int} (h : QueueAt w F qb ab pb cap l) :
    Calls Tryz.prog 63 #[.pointer (some ⟨qb, 0, none⟩), .int .i64 window] w fun e w1 => w1 = w ∧ ∃ n : Nat, e = .returned (.int .i64 n) ∧ n ≤ l.length ∧ (∀ j (hj : j < l.length), n ≤ j → window < l[j].window) ∧
      (∀ j (hj : j < l.length), n = j + 1 → l[j].window ≤ window) := by
  obtain ⟨LA, lc, xs, h1, h2, h3, h4⟩ := h.here
  have hlen := h.len
  refine f63_vc (fun _ x w' => w' = w ∧ -1 ≤ x ∧ x < l.length ∧ ∀ j (hj : j < l.length), x < j → window < l[j].window) (fun _ x _ => (x + 1).toNat)
    (fun _ w' => w' = w ∧ ∀ j (hj : j < l.length), window < l[j].window) ?_ ?_ ⟨_, h1.cell rfl, rfl, rfl, ?_⟩
  · rintro x w2 m ⟨rfl, g1, g2, hall⟩ hm
    refine CondQ.dec (fun hge => ⟨_, _, _, h1.cell rfl, by omega, ?_⟩) (fun hlt => ⟨rfl, fun j hj => hall j hj (by omega)⟩)
    obtain ⟨a, hLA⟩ := h2.ex (by omega)
    subst hLA
    have hx : x.toNat < l.length := by omega
    have hg := wtCells_get l x.toNat 0 hx (by omega)
    have hc : w2.cell? (a.add (x.toNat * 7)) = some (.int .i64 l[x.toNat].window) := by
      refine h2.cell ?_
      have : (xs.take (l.length * 7))[x.toNat * 7]? = some (.int .i64 l[x.toNat].window) := by rw [h3]; exact hg
      rw [List.getElem?_take, if_pos (by omega)] at this
      exact this
    refine ⟨_, hc, CondQ.dec (fun hle => ⟨rfl, x.toNat + 1, ?_, by omega, fun j hj hn => hall j hj (by omega), fun j hj he => ?_⟩) (fun hgt => ?_)⟩
    · rw [wrap_i64_id (by omega) (by omega)]
      congr 2
      omega
    · have : j = x.toNat := by omega
      subst this
      exact hle
    · rw [wrap_i64_id (by omega) (by omega)]
      refine ⟨⟨rfl, rfl, rfl, by omega, by omega, fun j hj hn => ?_⟩, by omega⟩
      by_cases hjx : j = x.toNat
      · subst hjx; omega
      · exact hall j hj (by omega)
  · rintro w7 ⟨rfl, hall⟩
    exact ⟨rfl, 0, rfl, by omega, fun j hj _ => hall j hj, fun j hj he => by omega⟩
  · rw [wrap_i64_id (by omega) (by omega)]
    exact ⟨rfl, by omega, by omega, fun j hj hn => by omega⟩

/-- the sum of the weights of the first i events of a window and a key; kf: their keys -/
def qSum (l : List Wt) (kf : Nat → ByteArray) (window : Int) (key : ByteArray) : Nat → Int
  | 0 => 0
  | i + 1 =>
    match l[i]? with
    | some x => if x.window = window ∧ (kf i == key) = true then satSum (qSum l kf window key i) x.weight else qSum l kf window key i
    | none => qSum l kf window key i

theorem satSum_range {a b : Int} (ha : 0 ≤ a ∧ a < 18446744073709551616) (hb : 0 ≤ b ∧ b < 18446744073709551616) : 0 ≤ satSum a b ∧ satSum a b < 18446744073709551616 := by
  unfold satSum; split <;> omega

theorem qSum_range {l : List Wt} {kf : Nat → ByteArray} {window : Int} {key : ByteArray} (hw : ∀ x ∈ l, 0 ≤ x.weight ∧ x.weight < 18446744073709551616) : ∀ i, 0 ≤ qSum l kf window key i ∧ qSum l kf window key i < 18446744073709551616 := by
  intro i
  induction i with
  | zero => exact ⟨by unfold qSum; omega, by unfold qSum; omega⟩
  | succ i ih =>
    unfold qSum
    split
    · rename_i x hx
      split
      · exact satSum_range ih (hw x (List.mem_of_getElem? hx))
      · exact ih
    · exact ih

theorem queue_weight {w : World} {F : Nat → Prop} {qb ab pb cap r : Nat} {l : List Wt} {p : Pol} {s : Arn} {window : Int} {key : ByteArray} {kf : Nat → ByteArray} (h : QueueAt w F qb ab pb cap l) (hp : PoolAt w F pb ab r p) (ha : ArenaAt w F ab s)
    (hk : ∀ i (hi : i < l.length), Named s p l[i].id (kf i)) (hw : ∀ x ∈ l, 0 ≤ x.weight ∧ x.weight < 18446744073709551616) :
    Calls Tryz.prog 79 #[.pointer (some ⟨qb, 0, none⟩), .int .i64 window, .string key] w fun e w1 => Ext w w1 ∧ e = .returned (.int .u64 (qSum l kf window key l.length)) := by
  obtain ⟨LA, lc, xs, h1, h2, h3, h4⟩ := h.here
  have hlen := h.len
  have hlc := h2.len
  have hxl := h2.length
  refine f79_vc
    (fun _ sum A n c x y w' => A = LA ∧ n = l.length ∧ c = lc ∧ x = l.length ∧ 0 ≤ y ∧ y ≤ l.length ∧ Ext w w' ∧ sum = qSum l kf window key y.toNat)
    (fun _ _ _ _ _ _ y _ => (l.length - y).toNat)
    (fun _ sum w' => Ext w w' ∧ sum = qSum l kf window key l.length)
    (fun g sum b A n c x y t w' => A = LA ∧ n = l.length ∧ c = lc ∧ x = l.length ∧ 0 ≤ y ∧ g = [((l.length : Int) - y).toNat] ∧ Ext w w' ∧ sum = qSum l kf window key y.toNat ∧ ∃ hy : y.toNat < l.length, Blk w' b 196 (l[y.toNat].cells).toArray ∧ t = decide (l[y.toNat].window = window ∧ (kf y.toNat == key) = true)) ?_ ?_ ?_ ?_
  · rintro sum A n c x y w3 m ⟨rfl, rfl, rfl, rfl, g1, g2, he, rfl⟩ hm
    refine CondQ.dec (fun hlt => ⟨by omega, ?_⟩) (fun hge => ⟨he, by rw [show y.toNat = l.length by omega]⟩)
    have hq3 := h2.frame he fun _ _ => id
    obtain ⟨a, hLA⟩ := hq3.ex (by omega)
    have hy : y.toNat < l.length := by omega
    have hrow := hq3.row
    rw [hLA] at hrow ⊢
    have hcs : ((xs.drop (y.toNat * 7)).take 7) = l[y.toNat].cells := by
      apply List.ext_getElem?
      intro j
      by_cases hj : j < 7
      · rw [List.getElem?_take, if_pos hj, List.getElem?_drop, ← wtCells_get l y.toNat j hy hj, ← h3, List.getElem?_take, if_pos (by omega)]
      · rw [List.getElem?_take, if_neg hj, List.getElem?_eq_none (by simp [Wt.cells]; omega)]
    have hld := hrow.loads (k := y.toNat * 7) (m := 7) (by omega)
    rw [hcs] at hld
    refine ⟨_, hld, fun b7 w8 hb7 hbb f8 => ⟨rfl, StoreQ.of hbb (by simp [Wt.cells]) (by simp [Wt.cells, one]) fun w9 hb9 f9 s9 => ?_⟩⟩
    have hb9 : Blk w9 b7 196 (l[y.toNat].cells).toArray := hb9
    have hs3 := he.size
    have he9 : Ext w w9 := (he.trans f8).then_ f9 fun i hi e => by omega
    have h1' := he9.b h1 (fun h => h)
    refine ⟨_, h1'.dcell rfl, _, hb9.dcell rfl, ?_⟩
    refine (pool_text (w := w9.drew) ((hp.ext he9).ext (Fr.drew _ _)) ((ha.ext he9).ext (Fr.drew _ _)) (hk y.toNat hy)).mono ?_
    rintro e w13 ⟨f13, rfl⟩
    have f13 : Ext w9 w13 := f13.dl
    have hb13 := f13.b hb9 (fun h => h)
    have he13 := he9.trans f13
    refine ⟨_, _, rfl, _, hb13.cell rfl, CondQ.beq (fun hwin => ⟨rfl, rfl, rfl, rfl, rfl, rfl, rfl, g1, by rw [hm], he13, rfl, hy, hb13, ?_⟩) (fun hwin => ⟨rfl, rfl, rfl, rfl, rfl, rfl, rfl, g1, by rw [hm], he13, rfl, hy, hb13, ?_⟩)⟩
    · rw [← beq_toListBytes]
      cases hb : (kf y.toNat == key) with
      | true => exact (decide_eq_true ⟨hwin, rfl⟩).symm
      | false => exact (decide_eq_false fun h => by simp at h).symm
    · exact (decide_eq_false fun h => hwin h.1).symm
  · rintro sum w23 ⟨he, rfl⟩
    exact ⟨he, rfl⟩
  · rintro m sum b A n c x y t w17 ⟨rfl, rfl, rfl, rfl, g1, hm, he, rfl, hy, hb, rfl⟩
    simp only [List.cons.injEq, and_true] at hm
    have hwr : IntKind.wrap .i64 (y + 1) = y + 1 := wrap_i64_id (by omega) (by omega)
    have hsucc : (y + 1).toNat = y.toNat + 1 := by omega
    have hstep : qSum l kf window key (y.toNat + 1) = if l[y.toNat].window = window ∧ (kf y.toNat == key) = true then satSum (qSum l kf window key y.toNat) l[y.toNat].weight else qSum l kf window key y.toNat := by
      conv => lhs; unfold qSum
      rw [List.getElem?_eq_getElem hy]
    rw [hwr]
    refine CondQ.dec (fun ht => ⟨_, hb.cell rfl, ?_⟩) (fun ht => ⟨⟨rfl, rfl, rfl, rfl, rfl, rfl, rfl, by omega, by omega, he, by rw [hsucc, hstep, if_neg ht]⟩, by omega⟩)
    refine (sat_add (qSum_range hw _) (hw _ (List.getElem_mem hy))).mono ?_
    rintro e w20 ⟨rfl, rfl⟩
    exact ⟨_, _, rfl, ⟨rfl, rfl, rfl, rfl, rfl, rfl, rfl, by omega, by omega, he, by rw [hsucc, hstep, if_pos ht]⟩, by omega⟩
  · refine ⟨_, _, _, h1.dcell rfl, _, h1.dcell rfl, by omega, rfl, rfl, rfl, ?_⟩
    rw [Int.toNat_natCast]
    exact ⟨rfl, rfl, rfl, rfl, by omega, by omega, Fr.drew _ _, rfl⟩

end Go.Proofs.YtdaookipaknoeaaGreat
