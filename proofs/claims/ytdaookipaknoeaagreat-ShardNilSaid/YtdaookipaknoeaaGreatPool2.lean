/-
  The pool: free and Intern of a new key.
-/
import Derived.Test.YtdaookipaknoeaaGreatPool
namespace Go.Proofs.YtdaookipaknoeaaGreat
open Go Go.MapKept
set_option linter.unusedVariables false

/-- the number that a new key gets -/
structure IsFree (p : Pol) (i : Nat) : Prop where
  lo : 1 ≤ i
  hi : i ≤ p.ents.length
  before : ∀ j (h : j < p.ents.length), 1 ≤ j → j < i → p.ents[j].users ≠ 0
  at_ : ∀ h : i < p.ents.length, p.ents[i].users = 0

def Pol.ensure (p : Pol) (i : Nat) : Pol := if i < p.ents.length then p else { p with ents := p.ents ++ [⟨0, 0, 0, 0⟩] }

theorem pool_free {w : World} {F : Nat → Prop} {pb ab r : Nat} {p : Pol} (h : PoolAt w F pb ab r p) (hl : p.ents.length ≤ 60000) :
    Calls Tryz.prog 161 #[.pointer (some ⟨pb, 0, none⟩)] w fun e w1 => ∃ i, IsFree p i ∧ e = .returned (.int .i64 (i : Nat)) ∧ PoolAt w1 (Grow F w w1) pb ab r (p.ensure i) ∧ Fr (Mod w F poTs []) w w1 := by
  have hlen := h.len
  refine f161_vc (fun _ x w' => w' = w ∧ 1 ≤ x ∧ x ≤ p.ents.length ∧ ∀ j (h : j < p.ents.length), 1 ≤ j → (j : Int) < x → p.ents[j].users ≠ 0) (fun _ x _ => (p.ents.length - x).toNat)
    (fun _ w' => w' = w ∧ ∀ j (h : j < p.ents.length), 1 ≤ j → p.ents[j].users ≠ 0) ?_ ?_ ⟨rfl, rfl, by omega, by omega, fun j h h1 h2 => by omega⟩
  · rintro x w1 m ⟨rfl, h1, h2, hall⟩ hm
    obtain ⟨EA, ec, hb, ho, hF⟩ := h.here
    refine ⟨_, _, _, hb.cell rfl, CondQ.dec (fun hlt => ⟨_, _, _, hb.cell rfl, by omega, ?_⟩) (fun hge => ⟨rfl, rfl, fun j hj h1 => hall j hj h1 (by omega)⟩)⟩
    obtain ⟨a, ha⟩ := ho.ex (by omega)
    rw [ha] at ho ⊢
    have hx : x.toNat < p.ents.length := by omega
    obtain ⟨_, _, _, g4⟩ := entCells_get p.ents x.toNat hx
    refine ⟨_, by rw [Addr.add_add]; exact ho.cell g4, CondQ.beq (fun hz => ⟨x.toNat, ⟨by omega, by omega, fun j hj h1 h2 => hall j hj h1 (by omega), fun _ => hz⟩, by rw [Int.toNat_of_nonneg (by omega)], ?_, Fr.refl _ _⟩) (fun hz => ?_)⟩
    · unfold Pol.ensure
      rw [if_pos hx]
      exact h.keep (Fr.refl (fun _ => False) _) (fun _ _ h => h.elim) id fun _ _ hF => .inl hF
    · rw [wrap_i64_id (by omega) (by omega)]
      refine ⟨⟨rfl, rfl, by omega, by omega, fun j hj h3 h4 => ?_⟩, by omega⟩
      by_cases hjx : j = x.toNat
      · subst hjx; exact hz
      · exact hall j hj h3 (by omega)
  · rintro w7 ⟨rfl, hall⟩
    obtain ⟨EA, ec, hb, ho, hF⟩ := h.here
    refine ⟨_, _, _, hb.cell rfl, rfl, fun b9 w10 hb9 hbb f10 => ?_⟩
    have ho10 := ho.frame f10 fun _ _ => id
    refine AppQ.own makes_entry (by rfl) (by omega) ho10 (Own.full (sz := 4) hbb (n := 1) (by decide) (by rfl)).row (by rfl) (fun h => by cases h) (by rfl) ?_ ?_ ?_
    · have := ho10.len; simp only [maxLen] at *; omega
    · omega
    intro A' c' w11 ho11 f11 hA11 hnil
    have hs10 := f10.size
    have hs11 := f11.size
    obtain ⟨a, ha⟩ := ho.ex (by omega)
    subst ha
    obtain ⟨_, cur, hcb⟩ := ho.blk
    have hfa := hF a rfl
    have nab : pb ≠ a.block := ArenaIn.ne_of_types hb hcb (by decide)
    have f11' : Fr (fun i => i = a.block) w10 w11 := f11.mono fun i _ ⟨y, hy, e⟩ => by cases hy; exact e
    have hb11 := f11'.b (f10.b hb id) nab
    refine StoreQ.of1 hb11 (by simp) rfl fun w12 hb12 f12 s12 => ?_
    have hb12 : Blk w12 pb 108 #[.pointer (some ⟨ab, 0, none⟩), .int .i64 p.cap, .slice A' (p.ents.length + 1) c', .map (some r)] := hb12
    refine ⟨_, _, _, hb12.cell rfl, p.ents.length, ⟨by omega, Nat.le_refl _, fun j hj h1 _ => hall j hj h1, fun h => by omega⟩, ?_, ?_, ?_⟩
    · rw [wrap_i64_id (by omega) (by omega)]
      congr 3
      omega
    · have hens : p.ensure p.ents.length = { p with ents := p.ents ++ [⟨0, 0, 0, 0⟩] } := by unfold Pol.ensure; rw [if_neg (by omega)]
      rw [hens]
      have hel : (p.ents ++ [(⟨0, 0, 0, 0⟩ : PEnt)]).length = p.ents.length + 1 := by simp
      have hec : entCells (p.ents ++ [(⟨0, 0, 0, 0⟩ : PEnt)]) = entCells p.ents ++ [.int .i64 0, .int .i64 0, .int .i64 0, .int .i64 0] := by unfold entCells; rw [List.flatMap_append]; rfl
      have hnp : ∀ x, A' = some x → ¬ x.block = pb := fun x hx e => by
        have ho' := ho11
        rw [hx] at ho'
        obtain ⟨_, cur', hb'⟩ := ho'.blk
        exact ArenaIn.ne_of_types hb' hb11 (by decide) e
      have hmr : r ≠ a.block ∧ r ≠ pb := ⟨h.map.ne hcb, h.map.ne hb⟩
      refine ⟨⟨A', c', by simp only [hel]; exact hb12, by simp only [hel, hec]; exact ho11.frame f12 hnp, fun x hx => ?_⟩, ((h.map.frame f10 id).frame f11' hmr.1).frame f12 hmr.2, ⟨.inl h.foot.1, .inl h.foot.2⟩, by simp only [hel]; omega⟩
      rcases hA11 with e | ⟨q, e, hq⟩
      · rw [e] at hx; cases hx; exact .inl hfa
      · have hl := ho11.lt x hx
        rw [e] at hx; cases hx
        exact .inr ⟨by simp only; omega, by simp only at hl ⊢; omega⟩
    · have r1 : Fr (Mod w7 F poTs []) w7 w11 := (Fr.mod_ext f10).then_ f11' fun j hj e => by subst e; exact ⟨hfa, .inl ⟨_, cur, hcb, by decide⟩⟩
      exact r1.then_ f12 fun j hj e => by subst e; exact ⟨h.foot.1, .inl ⟨_, _, hb, by decide⟩⟩

end Go.Proofs.YtdaookipaknoeaaGreat
