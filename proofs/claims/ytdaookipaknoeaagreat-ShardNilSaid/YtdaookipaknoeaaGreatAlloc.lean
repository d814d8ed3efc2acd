/-
  arena.Alloc: the contract.
-/
import Derived.Test.YtdaookipaknoeaaGreatArena5
namespace Go.Proofs.YtdaookipaknoeaaGreat
open Go
set_option linter.unusedVariables false

def Slot.took1 (t : Slot) : Slot := { t with age := t.age + 1 }
def Slot.took2 (t : Slot) : Slot := { t with age := t.age + 1, used := true }

/-- the arena after a slot was taken -/
def Arn.taken (s2 : Arn) (c : Nat) (k2 : Kls) (i : Nat) (t : Slot) : Arn := s2.setK c { k2.setS i t.took with live := k2.live + 1 }

theorem setK_setK (s : Arn) (c : Nat) (k k' : Kls) : (s.setK c k).setK c k' = s.setK c k' := by simp [Arn.setK]
theorem setS_setS (k : Kls) (i : Nat) (t t' : Slot) : (k.setS i t).setS i t' = k.setS i t' := by simp [Kls.setS]
theorem setK_get {s : Arn} {c : Nat} {k k' : Kls} (h : s.kls[c]? = some k) : (s.setK c k').kls[c]? = some k' := by
  simp [Arn.setK, (List.getElem?_eq_some_iff.1 h).1]
theorem setS_get {k : Kls} {i : Nat} {t t' : Slot} (h : k.slots[i]? = some t) : (k.setS i t').slots[i]? = some t' := by
  simp [Kls.setS, (List.getElem?_eq_some_iff.1 h).1]

theorem arena_alloc {w : World} {F : Nat → Prop} {ab : Nat} {s s2 : Arn} {size : Int} {c i : Nat} {k k2 : Kls} {t : Slot} (h : ArenaAt w F ab s) (hl : s.kls.length ≤ 8) (hs : 1 ≤ size) (hc : s.fit size = some c) (hk : s.kls[c]? = some k)
    (hst : AStep s c k i t k2 s2) (hage : 0 ≤ t.age ∧ t.age < 4611686018427387904) (hlive : 0 ≤ k.live ∧ k.live < 4611686018427387904) (hlen : k.slots.length ≤ 65536) :
    Calls Tryz.prog 51 #[.pointer (some ⟨ab, 0, none⟩), .int .i64 size] w fun e w1 =>
      e = .returned (.tuple #[.agg #[.int .i64 (c : Nat), .int .i64 (i : Nat), .int .i64 (t.age + 1)], .int .i64 0]) ∧ ArenaAt w1 (Grow F w w1) ab (s2.taken c k2 i t) ∧ Fr (Mod w F arTs []) w w1 := by
  have hcl : c < s.kls.length := (List.getElem?_eq_some_iff.1 hk).1
  refine f51_vc
    (fun _ xb ic cp iat w' => ∃ a cc xs sa, ArenaIn w' (Grow F w w') ab s2 (some a) cc xs sa ∧ ic = (c : Nat) ∧ cp = some (a.add (c * 4)) ∧ iat = (i : Nat) ∧ s2.kls[c]? = some k2 ∧ k2.slots[i]? = some t ∧ k2.live = k.live ∧ Blk w' xb 123 #[.int .i64 0, .int .i64 0, .int .i64 0] ∧ w.heap.size ≤ xb ∧ Fr (Mod w F arTs []) w w') ?_ ?_
  · rintro xb ic cp iat w26 ⟨a, cc, xs, sa, hin, rfl, rfl, rfl, hk2, ht, hlv, hx, hxn, hf⟩
    obtain ⟨b, hb⟩ := hin.slotSome hk2 ht
    obtain ⟨k1, k3, k4, cp, k5, k6⟩ := hin.klsCell hk2
    obtain ⟨y0, y1, y2, dA, dc, y3, y4⟩ := hin.slotCell hk2 ht hb
    have hil := (List.getElem?_eq_some_iff.1 ht).1
    have hsb := hin.slotsOwn hk2 hb
    refine ⟨_, _, _, k5, by omega, ?_⟩
    rw [hb, Int.toNat_natCast]
    refine ⟨_, y0, ?_⟩
    rw [wrap_i64_id (by omega) (by omega)]
    have hw26 := hf.size
    -- the age
    have st1 := @ArenaIn.storeSlot w26 _ ab s2 (some a) cc xs sa (fun w31 => StoreQ w31 (Addr.add (Addr.add b (i * 4)) 1) [.bool true] fun w32 => StoreQ w32 (Addr.add (Addr.add b (i * 4)) 3) [.slice none 0 0] fun w33 => optQ (some (a.add (c * 4))) fun a34 => ∃ n35 : Int, w33.cell? (Addr.add a34 3) = some (.int .i64 n35) ∧ optQ (some (a.add (c * 4))) fun a36 => StoreQ w33 (Addr.add a36 3) [.int .i64 (IntKind.wrap .i64 (n35 + 1))] fun w37 => ∃ n38 : Int, w37.cell? (Addr.add b (i * 4)) = some (.int .i64 n38) ∧ (#[.int .i64 (c : Nat), .int .i64 (i : Nat), .int .i64 n38] : Array Value).size = 3 ∧ StoreQ w37 ⟨xb, 0, none⟩ [.int .i64 (c : Nat), .int .i64 (i : Nat), .int .i64 n38] fun w39 => ∃ cs40 : Array Value, LoadsA w39 ⟨xb, 0, none⟩ 3 cs40 ∧ (Ending.returned (.tuple #[.agg cs40, .int .i64 0]) = .returned (.tuple #[.agg #[.int .i64 (c : Nat), .int .i64 (i : Nat), .int .i64 (t.age + 1)], .int .i64 0]) ∧ ArenaAt w39 (Grow F w w39) ab (s2.taken c k2 i t) ∧ Fr (Mod w F arTs []) w w39))
      hin c i 0 k2 t t.took1 (.int .i64 (t.age + 1)) b hk2 ht hb (by omega) rfl (fun dA dc hB => ⟨dA, dc, rfl, hB⟩)
    refine st1 ?_
    intro w31 hin1 f31 s31
    have hk31 := setK_get (k' := k2.setS i t.took1) hk2
    have ht31 := setS_get (t' := t.took1) ht
    -- in use
    refine hin1.storeSlot (t' := t.took2) (j := 1) hk31 ht31 hb (by omega) rfl (fun dA dc hB => ⟨dA, dc, rfl, hB⟩) ?_
    intro w32 hin2 f32 s32
    rw [setK_setK, setS_setS] at hin2
    have hk32 := setK_get (k' := k2.setS i t.took2) hk2
    have ht32 := setS_get (t' := t.took2) ht
    -- no bytes
    refine hin2.storeSlot (t' := t.took) (j := 3) hk32 ht32 hb (by omega) rfl (fun dA dc hB => ⟨none, 0, rfl, fun _ => rfl, Row.nil _ _, fun x hx => by cases hx⟩) ?_
    intro w33 hin3 f33 s33
    rw [setK_setK, setS_setS] at hin3
    have hk33 := setK_get (k' := k2.setS i t.took) hk2
    have ht33 := setS_get (t' := t.took) ht
    -- one more
    obtain ⟨_, _, l3, _⟩ := hin3.klsCell hk33
    refine ⟨_, l3, ?_⟩
    have hlv' : (k2.setS i t.took).live = k2.live := rfl
    rw [hlv', wrap_i64_id (by omega) (by omega)]
    refine hin3.storeLive hk33 _ ?_
    intro w37 ys hin4 f37 s37
    rw [setK_setK] at hin4
    have hk37 := setK_get (k' := { k2.setS i t.took with live := k2.live + 1 }) hk2
    obtain ⟨z0, _⟩ := hin4.slotCell (i := i) (t := t.took) hk37 ht33 hb
    refine ⟨_, z0, rfl, ?_⟩
    -- the handle
    obtain ⟨_, hFb, cur, hcb⟩ := hsb
    obtain ⟨_, hFa, cur2, hca⟩ := hin.caOwn rfl
    have nb : xb ≠ b.block := ArenaIn.ne_of_types hx hcb (by decide)
    have na : xb ≠ a.block := ArenaIn.ne_of_types hx hca (by decide)
    have hx37 : Blk w37 xb 123 #[.int .i64 0, .int .i64 0, .int .i64 0] := f37.b (f33.b (f32.b (f31.b hx nb) nb) nb) na
    refine StoreQ.of hx37 (by simp) (by simp [one]) fun w39 hb39 f39 s39 => ?_
    have hb39 : Blk w39 xb 123 #[.int .i64 (c : Nat), .int .i64 (i : Nat), .int .i64 (t.age + 1)] := hb39
    have e39 : w39.heap.size = w26.heap.size := by omega
    refine ⟨_, hb39.loads0 rfl, rfl, ?_, ?_⟩
    · refine ArenaAt.keep ⟨some a, cc, ys, sa, hin4⟩ f39 (fun j hF e => by subst e; exact Tg.not hx37 (by decide)) fun j hj hF => ?_
      exact Grow.mono (by omega) hF
    · have t1 : Fr (Mod w26 (Grow F w w26) arTs []) w26 w31 := Fr.mod_one hcb hFb (by decide) f31
      have t2 : Fr (Mod w26 (Grow F w w26) arTs []) w26 w33 := by
        refine (t1.then_ f32 fun j hj e => ?_).then_ f33 fun j hj e => ?_
        · subst e; exact ⟨hFb, .inl ⟨_, cur, hcb, by decide⟩⟩
        · subst e; exact ⟨hFb, .inl ⟨_, cur, hcb, by decide⟩⟩
      have t3 : Fr (Mod w26 (Grow F w w26) arTs []) w26 w37 := t2.then_ f37 fun j hj e => by subst e; exact ⟨hFa, .inl ⟨_, cur2, hca, by decide⟩⟩
      exact (hf.mod_then t3).then_ f39 fun j hj e => by omega
  · intro xb w2 hxn hx f2
    have h2 := h.ext f2
    refine (arena_fit h2 hl hs).mono ?_
    rintro e w4 ⟨f4, rfl⟩
    rw [hc]
    obtain ⟨CA, cc, xs, sa, hin⟩ := h2.ext f4
    refine ⟨_, _, rfl, CondQ.no rfl ⟨_, _, _, hin.here.cell rfl, by omega, ?_⟩⟩
    obtain ⟨a, ha⟩ := hin.own.ex (by omega)
    subst ha
    have hx4 := f4.b hx id
    have hs2 := f2.size
    have hs4 := f4.size
    have hf4 : Fr (Mod w F arTs []) w w4 := Fr.mod_ext (f2.trans f4)
    have hgrow : ∀ {w' : World} j, j < w'.heap.size → F j → Grow F w w' j := fun j _ hF => .inl hF
    obtain ⟨k1, k3, k4, cp, k5, k6⟩ := hin.klsCell hk
    have hfl : c < s.free.length := by rw [hin.free]; omega
    have hfree : ∀ v : Int, s.free[c]? = some v → w4.cell? (Addr.add ⟨ab, 1, none⟩ (c * 1)) = some (.int .i64 v) := fun v hv => by
      rw [Addr.add_mk, cell_blk hin.here]
      simp only [arnCells, List.getElem?_toArray, show 1 + c * 1 = c + 1 by omega, List.getElem?_cons_succ]
      rw [List.getElem?_append_left (by simpa using hfl), List.getElem?_map, hv]
      rfl
    rw [Int.toNat_natCast]
    refine ⟨by omega, ?_⟩
    rcases hst with ⟨g1, g2, rfl, rfl⟩ | ⟨g1, g2, rfl, rfl, rfl, rfl⟩
    · -- a free slot
      refine ⟨_, hfree _ g1, CondQ.bne (fun _ => ?_) (fun e => by omega)⟩
      obtain ⟨b, hb⟩ := hin.slotSome hk g2
      obtain ⟨y0, y1, y2, _⟩ := hin.slotCell hk g2 hb
      have hil := (List.getElem?_eq_some_iff.1 g2).1
      refine ⟨_, _, _, k5, by omega, ?_⟩
      rw [hb, Int.toNat_natCast]
      refine ⟨_, y2, by omega, ?_⟩
      refine ArenaIn.storeFree (w := w4.drew) (hin.ext (Fr.drew _ _)) (by omega) _ ?_
      intro w15 hin15 f15 s15
      have f15 : Fr (fun j => j = ab) w4 w15 := f15.dl
      exact ⟨a, cc, xs, sa, hin15.monoF hgrow, rfl, rfl, rfl, hk, g2, rfl, f15.b hx4 (fun e => ArenaIn.ne_of_types hx4 hin.here (by decide) e), hxn, hf4.then_ f15 fun j hj e => by subst e; exact ⟨hin.foot.1, .inl ⟨_, _, (h.choose_spec.choose_spec.choose_spec.choose_spec).here, by decide⟩⟩⟩
    · -- a new slot
      refine ⟨_, hfree _ g1, CondQ.no rfl ⟨_, _, _, k5, _, k3, CondQ.decT g2 ⟨_, _, _, k5, _, _, _, k5, rfl, ?_⟩⟩⟩
      intro b20 w21 hb20 hbb f21
      have f21 : Ext w4 w21 := f21.dl
      have hin21 := hin.ext f21
      obtain ⟨zs, hzo, hz⟩ := (k6.keep f21 (fun _ _ => id) (fun _ _ _ => id) (fun _ _ h => h)).own
      refine AppQ.own makes_slot (by rfl) (by omega) hzo (Own.full (sz := 4) hbb (n := 1) (by decide) (by rfl)).row (by rfl) (fun h => by cases h) (by rfl) ?_ ?_ ?_
      · have := hzo.len; simp only [maxLen] at *; omega
      · omega
      · intro A' c' w22 ho22 f22 hA22 hnil
        have hs21 := f21.size
        have hs22 := f22.size
        have hcn : ∀ x, sa c = some x → x.block < w21.heap.size := fun x hx => by
          obtain ⟨_, _, cur', hb'⟩ := hin21.slotsOwn hk hx
          exact lt_of_blk hb'
        have hnew : SlotsAt w22 (Grow F w w22) A' (k.slots.length + 1) c' (k.slots ++ [⟨0, false, 0, []⟩]) := by
          refine ⟨by simp, fun x hx => ?_, _, ho22, fun j t hj => ?_⟩
          · rcases hA22 with e | ⟨b, e, hbn⟩
            · rw [e] at hx
              exact .inl (hin21.slotsOwn hk hx).2.1
            · rw [e] at hx
              cases hx
              exact .inr ⟨by simp only; omega, ho22.lt _ e⟩
          · have hzl := hzo.length
            by_cases hjk : j < k.slots.length
            · rw [List.getElem?_append_left hjk] at hj
              obtain ⟨dA, dc, y0, y1, y2, y3, y4⟩ := hz j t hj
              have hd : ∀ x, dA = some x → ¬ ∃ y, sa c = some y ∧ x.block = y.block := fun x hx ⟨y, hy, e⟩ => by
                obtain ⟨_, _, cur', hb'⟩ := hin21.slotsOwn hk hy
                exact Tg.not hb' (by decide) (e ▸ (y4.foot x hx).2)
              refine ⟨dA, dc, by rw [List.getElem?_append_left (by omega)]; exact y0, by rw [List.getElem?_append_left (by omega)]; exact y1, by rw [List.getElem?_append_left (by omega)]; exact y2, by rw [List.getElem?_append_left (by omega)]; exact y3, y4.nil, y4.row.frame f22 hd, fun x hx => ?_⟩
              obtain ⟨hF, T, cs, hb', hT⟩ := y4.foot x hx
              exact ⟨.inl hF, T, cs, f22.get hb' (hd x hx), hT⟩
            · have hjl := (List.getElem?_eq_some_iff.1 hj).1
              simp only [List.length_append, List.length_singleton] at hjl
              have hje : j = k.slots.length := by omega
              subst hje
              rw [List.getElem?_append_right (by omega), Nat.sub_self] at hj
              simp only [List.getElem?_cons_zero, Option.some.injEq] at hj
              subst hj
              refine ⟨none, 0, ?_, ?_, ?_, ?_, fun _ => rfl, Row.nil _ _, fun x hx => by cases hx⟩
              all_goals (rw [List.getElem?_append_right (by omega), hzl])
              · rw [Nat.sub_self]; rfl
              · rw [show k.slots.length * 4 + 1 - k.slots.length * 4 = 1 by omega]; rfl
              · rw [show k.slots.length * 4 + 2 - k.slots.length * 4 = 2 by omega]; rfl
              · rw [show k.slots.length * 4 + 3 - k.slots.length * 4 = 3 by omega]; rfl
        refine hin21.storeSlots (G := Grow F w w22) hk f22 (fun j _ hF => .inl hF) hnew ?_ ?_
        · rcases hA22 with e | ⟨b, e, hbn⟩
          · exact .inl e
          · exact .inr ⟨b, e, by omega⟩
        · intro w23 ys hin23 f23 s23
          obtain ⟨_, hFa, cur, hcb⟩ := hin21.caOwn rfl
          have hx21 := f21.b hx4 id
          have hx22 := f22.b hx21 fun ⟨y, hy, e⟩ => by
            obtain ⟨_, _, cur', hb'⟩ := hin21.slotsOwn hk hy
            exact ArenaIn.ne_of_types hx21 hb' (by decide) e
          have hcb22 := f22.b hcb fun ⟨y, hy, e⟩ => by
            obtain ⟨_, _, cur', hb'⟩ := hin21.slotsOwn hk hy
            exact ArenaIn.ne_of_types hcb hb' (by decide) e
          refine ⟨a, cc, ys, _, hin23.monoF fun j _ hj => Grow.mono (by omega) hj, rfl, rfl, rfl, setK_get hk, by simp, rfl, f23.b hx22 (ArenaIn.ne_of_types hx22 hcb22 (by decide)), hxn, ?_⟩
          have r1 : Fr (Mod w F arTs []) w w21 := hf4.then_ f21 fun _ _ h => h.elim
          have r2 : Fr (Mod w F arTs []) w w22 := r1.then_ f22 fun j hj ⟨y, hy, e⟩ => by
            subst e
            obtain ⟨_, hF, cur', hb'⟩ := hin21.slotsOwn hk hy
            exact r1.mod_back hj hF ⟨_, cur', hb', by decide⟩
          exact r2.then_ f23 fun j hj e => by subst e; exact r2.mod_back hj hFa ⟨_, cur, hcb22, by decide⟩

end Go.Proofs.YtdaookipaknoeaaGreat
