/-
  arena.New, Fit, Alloc.
-/
import Derived.Test.YtdaookipaknoeaaGreatArena
namespace Go.Proofs.YtdaookipaknoeaaGreat
open Go
set_option linter.unusedVariables false

theorem Row.loads {w : World} {a : Addr} {xs : List Value} (h : Row w (some a) xs) {k m : Nat} (hk : k + m ≤ xs.length) : LoadsA w (a.add k) m ((xs.drop k).take m).toArray := by
  refine ⟨by simp; omega, fun j hj => ?_⟩
  rw [Addr.add_add]
  have hl : k + j < xs.length := by omega
  obtain ⟨x, hx, hc⟩ := h (k + j) xs[k + j] (List.getElem?_eq_getElem hl)
  cases hx
  rw [hc]
  simp [hj, hl]

theorem drop_take_get {xs : List Value} {k m j : Nat} (hj : j < m) : (((xs.drop k).take m).toArray)[j]? = xs[k + j]? := by simp [hj]

def newCls (ls : List (Int × Int)) : List Value := ls.flatMap fun p => [.int .i64 p.1, .int .i64 p.2, .slice none 0 0, .int .i64 0]

theorem newCls_length (ls : List (Int × Int)) : (newCls ls).length = ls.length * 4 := by
  unfold newCls
  induction ls with
  | nil => rfl
  | cons p ls ih => simp [ih]; omega

theorem newCls_get (ls : List (Int × Int)) (i : Nat) (h : i < ls.length) : (newCls ls)[i * 4]? = some (.int .i64 ls[i].1) ∧ (newCls ls)[i * 4 + 1]? = some (.int .i64 ls[i].2) ∧ (newCls ls)[i * 4 + 2]? = some (.slice none 0 0) ∧ (newCls ls)[i * 4 + 3]? = some (.int .i64 0) := by
  induction ls generalizing i with
  | nil => simp at h
  | cons p ls ih =>
    cases i with
    | zero => simp [newCls]
    | succ i =>
      have := ih i (by simpa using h)
      rw [show (i + 1) * 4 = i * 4 + 4 by omega]
      simpa [newCls] using this

def newFree (i : Nat) : List Int := List.replicate i (-1) ++ List.replicate (8 - i) 0

def newArn (ls : List (Int × Int)) : Arn := ⟨ls.map fun p => ⟨p.1, p.2, 0, []⟩, newFree ls.length, 0⟩

theorem makes_cls : makes Tryz.prog 96 104 (.agg #[.int .i64 0, .int .i64 0, .slice none 0 0, .int .i64 0]) 4 48 := .of (by kernel_rfl) (by kernel_rfl)
theorem makes_slot : makes Tryz.prog 102 188 (.agg #[.int .i64 0, .bool false, .int .i64 0, .slice none 0 0]) 4 48 := .of (by kernel_rfl) (by kernel_rfl)
theorem makes_bytes : makes Tryz.prog 23 5 (.int .u8 0) 1 1 := .of (by kernel_rfl) (by kernel_rfl)

theorem arena_new {w : World} {A : Option Addr} {n c : Nat} {ls : List (Int × Int)} (h : ClsAt w A n ls) (hv : ClsOk ls) :
    Calls Tryz.prog 9 #[.slice A n c] w fun e w1 => Ext w w1 ∧ ∃ ab, e = .returned (.tuple #[.pointer (some ⟨ab, 0, none⟩), .int .i64 0]) ∧ w.heap.size ≤ ab ∧ ∀ F : Nat → Prop, (∀ i, w.heap.size ≤ i → i < w1.heap.size → F i) → ArenaAt w1 F ab (newArn ls) := by
  have hl := hv.len
  have hn := h.len
  rw [hn] at hl
  refine f9_vc
    (fun _ ab x w' => ∃ CA cc, 0 ≤ x ∧ x ≤ n ∧ Ext w w' ∧ w.heap.size ≤ ab ∧ Blk w' ab 99 (arnCells CA x.toNat cc (newFree x.toNat) 0) ∧ Own w' 104 4 CA x.toNat cc (newCls (ls.take x.toNat)) ∧ ∀ y, CA = some y → w.heap.size ≤ y.block)
    (fun _ _ x _ => (n - x).toNat)
    (fun _ ab w' => ∃ CA cc, Ext w w' ∧ w.heap.size ≤ ab ∧ Blk w' ab 99 (arnCells CA n cc (newFree n) 0) ∧ Own w' 104 4 CA n cc (newCls ls) ∧ ∀ y, CA = some y → w.heap.size ≤ y.block) ?_ ?_ ?_
  · rintro ab x w6 m ⟨CA, cc, h0, h1, he, hab, hb, ho, hca⟩ hm
    refine CondQ.dec (fun hlt => ⟨by omega, ?_⟩) (fun hge => ?_)
    · obtain ⟨a, rfl, hl2, hld⟩ := (h.ext he).loads (i := x.toNat) (by omega)
      refine ⟨_, hld, fun b10 w11 hb10 hbb f11 => ⟨rfl, StoreQ.of hbb (by simp) (by simp [one]) fun w12 hb12 f12 s12 => ?_⟩⟩
      have hb12 : Blk w12 b10 101 #[.int .i64 ls[x.toNat].1, .int .i64 ls[x.toNat].2] := hb12
      have hs6 := he.size
      have e12 : Ext w6 w12 := f11.then_ f12 fun i hi hj => by omega
      have hba : Blk w12 ab 99 (arnCells CA x.toNat cc (newFree x.toNat) 0) := e12.get hb id
      refine ⟨CA, x.toNat, cc, hba.dcell rfl, _, hb12.loads0 (by rfl), rfl, rfl, ?_⟩
      intro b15 w16 hb15 hbb15 f16
      have f16 : Ext w12 w16 := f16.dl
      have hbb15 : Blk w16 b15 104 #[.int .i64 ls[x.toNat].1, .int .i64 ls[x.toNat].2, .slice none 0 0, .int .i64 0] := hbb15
      have e16 : Ext w6 w16 := e12.trans f16
      have hba16 : Blk w16 ab 99 (arnCells CA x.toNat cc (newFree x.toNat) 0) := f16.get hba id
      refine ⟨hba16.cell rfl, ?_⟩
      refine AppQ.own makes_cls (by rfl) (by omega) (ho.frame e16 fun _ _ => id) (Own.full (sz := 4) hbb15 (n := 1) (by decide) (by rfl)).row (by rfl) (fun h => by cases h) (by rfl) ?_ ?_ ?_
      · have := ho.len; simp only [maxLen] at *; omega
      · omega
      · intro CA' cc' w17 ho17 f17 hA17 hnil
        have hs16 := e16.size
        have habl : ab < w16.heap.size := lt_of_blk hba16
        have hne : ∀ y, CA = some y → ab ≠ y.block := fun y hy he' => by
          have ho' := ho
          subst hy
          obtain ⟨_, cur, hcur⟩ := ho'.blk
          rw [← he'] at hcur
          unfold Blk at hb hcur
          rw [hb] at hcur
          simp only [Option.some.injEq, Obj.cells.injEq] at hcur
          exact absurd hcur.2.1 (by decide)
        have hba17 : Blk w17 ab 99 (arnCells CA x.toNat cc (newFree x.toNat) 0) := f17.get hba16 (fun ⟨y, hy, e'⟩ => hne y hy e')
        have hca17 : ∀ y, CA' = some y → w.heap.size ≤ y.block ∧ ab ≠ y.block := fun y hy => by
          rcases hA17 with e' | ⟨b, e', hbn⟩
          · rw [e'] at hy; exact ⟨hca y hy, hne y hy⟩
          · rw [e'] at hy; cases hy; simp only; omega
        refine StoreQ.of1 hba17 (by simp [arnCells]) rfl fun w18 hb18 f18 s18 => ?_
        have hb18 : Blk w18 ab 99 (arnCells CA' (x.toNat + 1) cc' (newFree x.toNat) 0) := hb18
        refine ⟨by omega, ?_⟩
        rw [Addr.add_mk]
        have hfl : (newFree x.toNat).length = 8 := by unfold newFree; simp; omega
        refine StoreQ.of1 hb18 (by simp [arnCells, hfl]; omega) rfl fun w19 hb19 f19 s19 => ?_
        have hb19 : Blk w19 ab 99 (arnCells CA' (x.toNat + 1) cc' (newFree (x.toNat + 1)) 0) := by
          have e' : (arnCells CA' (x.toNat + 1) cc' (newFree x.toNat) 0).setIfInBounds (1 + x.toNat * 1) (.int .i64 (-1)) = arnCells CA' (x.toNat + 1) cc' (newFree (x.toNat + 1)) 0 := by
            have : x.toNat < 8 := by omega
            match x.toNat, this with
            | 0, _ => rfl
            | 1, _ => rfl
            | 2, _ => rfl
            | 3, _ => rfl
            | 4, _ => rfl
            | 5, _ => rfl
            | 6, _ => rfl
            | 7, _ => rfl
          rw [← e']
          exact hb19
        have hwr : IntKind.wrap .i64 (x + 1) = x + 1 := wrap_i64_id (by omega) (by omega)
        have htn : (x + 1).toNat = x.toNat + 1 := by omega
        have e17 : Ext w w17 := (he.trans e16).then_ f17 fun i hi ⟨y, hy, e'⟩ => by have := hca y hy; omega
        have e19 : Ext w w19 := (e17.then_ f18 fun i hi e' => by omega).then_ f19 fun i hi e' => by omega
        rw [hwr]
        refine ⟨⟨rfl, rfl, CA', cc', by omega, by omega, e19, hab, by rw [htn]; exact hb19, ?_, fun y hy => (hca17 y hy).1⟩, by omega⟩
        rw [htn]
        have htk : newCls (ls.take (x.toNat + 1)) = newCls (ls.take x.toNat) ++ [.int .i64 ls[x.toNat].1, .int .i64 ls[x.toNat].2, .slice none 0 0, .int .i64 0] := by
          have e' : ls.take (x.toNat + 1) = ls.take x.toNat ++ [ls[x.toNat]] := by rw [List.take_add_one, List.getElem?_eq_getElem hl2]; rfl
          unfold newCls
          rw [e', List.flatMap_append]; rfl
        rw [htk]
        exact (ho17.frame f18 (fun y hy e' => (hca17 y hy).2 e'.symm)).frame f19 (fun y hy e' => (hca17 y hy).2 e'.symm)
    · have hxn : x.toNat = n := by omega
      rw [hxn] at hb ho
      rw [List.take_of_length_le (by omega)] at ho
      exact ⟨CA, cc, he, hab, hb, ho, hca⟩
  · rintro ab w20 ⟨CA, cc, he, hab, hb, ho, hca⟩
    refine ⟨he, ab, rfl, hab, fun F hF => ⟨CA, cc, newCls ls, fun _ => none, ?_⟩⟩
    have hkl : (newArn ls).kls.length = n := by simp [newArn, hn]
    refine ⟨by rw [hkl]; simp only [newArn, hn]; exact hb, ⟨hF _ hab (lt_of_blk hb), fun x hx => hF _ (hca x hx) (ho.lt x hx)⟩, by simp [newArn, newFree]; omega, by rw [hkl]; exact ho, ?_, fun i j x y _ _ _ hx => by cases hx⟩
    intro i k hi
    simp only [newArn, List.getElem?_map, Option.map_eq_some_iff] at hi
    obtain ⟨p, hp, rfl⟩ := hi
    obtain ⟨hil, rfl⟩ := List.getElem?_eq_some_iff.1 hp
    obtain ⟨g1, g2, g3, g4⟩ := newCls_get ls i hil
    exact ⟨g1, g2, g4, 0, g3, rfl, fun x hx => (by cases hx), [], Own.nil _ _ _, fun i s hs => by simp at hs⟩
  · refine (arena_check_ok h hv).mono ?_
    rintro e w2 ⟨f2, rfl⟩
    refine ⟨0, rfl, CondQ.no rfl fun ab w5 hab hb f5 => ⟨rfl, rfl, none, 0, by omega, by omega, f2.trans f5, ?_, hb, Own.nil _ _ _, fun y hy => by cases hy⟩⟩
    have := f2.size; omega

end Go.Proofs.YtdaookipaknoeaaGreat
