/-
  Stores into an arena's parts.
-/
import Derived.Test.YtdaookipaknoeaaGreatArena3
namespace Go.Proofs.YtdaookipaknoeaaGreat
open Go
set_option linter.unusedVariables false

theorem Addr.add_zero (a : Addr) : a.add 0 = a := rfl

def Arn.setK (s : Arn) (c : Nat) (k : Kls) : Arn := { s with kls := s.kls.set c k }
def Kls.setS (k : Kls) (i : Nat) (t : Slot) : Kls := { k with slots := k.slots.set i t }

def slotVals (t : Slot) (dA : Option Addr) (dc : Nat) : List Value := [.int .i64 t.age, .bool t.used, .int .i64 t.next, .slice dA t.data.length dc]

namespace ArenaIn
variable {w w1 : World} {F : Nat → Prop} {ab : Nat} {s : Arn} {CA : Option Addr} {cc : Nat} {xs : List Value} {sa : Nat → Option Addr}

theorem slotsOwn (h : ArenaIn w F ab s CA cc xs sa) {c : Nat} {k : Kls} (hk : s.kls[c]? = some k) {x : Addr} (hx : sa c = some x) : x = ⟨x.block, 0, none⟩ ∧ F x.block ∧ ∃ cur, Blk w x.block 188 cur := by
  obtain ⟨cp, h1, h2⟩ := (h.kls c k hk).slots
  obtain ⟨ys, ho, _⟩ := h2.own
  have hf := h2.foot x hx
  rw [hx] at ho
  obtain ⟨e1, cur, hb⟩ := ho.blk
  exact ⟨e1, hf, cur, hb⟩

theorem caOwn (h : ArenaIn w F ab s CA cc xs sa) {x : Addr} (hx : CA = some x) : x = ⟨x.block, 0, none⟩ ∧ F x.block ∧ ∃ cur, Blk w x.block 104 cur := by
  have ho := h.own
  have hf := h.foot.2 x hx
  rw [hx] at ho
  obtain ⟨e1, cur, hb⟩ := ho.blk
  exact ⟨e1, hf, cur, hb⟩

/-- a block of another type is another block -/
theorem ne_of_types {w : World} {i j T U : Nat} {cs ds : Array Value} (h1 : Blk w i T cs) (h2 : Blk w j U ds) (h : T ≠ U) : i ≠ j := fun e => by
  subst e
  unfold Blk at *
  rw [h1] at h2
  simp only [Option.some.injEq, Obj.cells.injEq] at h2
  exact h h2.2.1

/-- slots stay where another block than theirs is changed -/
theorem slots_keep {A : Option Addr} {n c : Nat} {l : List Slot} (h : SlotsAt w F A n c l) {b T : Nat} {cs : Array Value} (hb : Blk w b T cs) (hT : T ≠ 5) (hA : ∀ x, A = some x → x.block ≠ b) (f : Fr (fun i => i = b) w w1) : SlotsAt w1 F A n c l :=
  h.keep f hA (fun i _ hi e => by subst e; exact Tg.not hb (by simpa using hT) hi) fun _ _ h => h

theorem storeFree {C : World → Prop} (h : ArenaIn w F ab s CA cc xs sa) {c : Nat} (hc : c < 8) (v : Int)
    (H : ∀ w1, ArenaIn w1 F ab { s with free := s.free.set c v } CA cc xs sa → Fr (fun i => i = ab) w w1 → w1.heap.size = w.heap.size → C w1) : StoreQ w (Addr.add ⟨ab, 1, none⟩ (c * 1)) [.int .i64 v] C := by
  rw [Addr.add_mk]
  refine StoreQ.of1 h.here (by simp [arnCells, h.free]; omega) rfl fun w1 hb f s1 => H w1 ?_ f s1
  have hset : (arnCells CA s.kls.length cc s.free s.faults).setIfInBounds (1 + c * 1) (.int .i64 v) = arnCells CA s.kls.length cc (s.free.set c v) s.faults := by
    unfold arnCells
    apply Array.toList_inj.1
    rw [Array.toList_setIfInBounds]
    simp only
    rw [show 1 + c * 1 = c + 1 by omega, List.set_cons_succ, List.set_append_left _ _ (by simp [h.free]; omega), List.map_set]
  rw [hset] at hb
  refine ⟨hb, h.foot, by simp [h.free], h.own.frame f fun x hx e => ?_, fun i k hi => ?_, h.apart⟩
  · obtain ⟨_, _, cur, hc⟩ := h.caOwn hx
    exact ne_of_types hc h.here (by decide) e
  · have hk := h.kls i k hi
    obtain ⟨cp, g1, g2⟩ := hk.slots
    refine ⟨hk.size, hk.count, hk.live, cp, g1, slots_keep g2 h.here (by decide) (fun x hx => ?_) f⟩
    obtain ⟨_, _, cur, hc⟩ := h.slotsOwn hi hx
    exact ne_of_types hc h.here (by decide)

theorem storeLive {C : World → Prop} {a : Addr} (h : ArenaIn w F ab s (some a) cc xs sa) {c : Nat} {k : Kls} (hk : s.kls[c]? = some k) (v : Int)
    (H : ∀ w1 ys, ArenaIn w1 F ab (s.setK c { k with live := v }) (some a) cc ys sa → Fr (fun i => i = a.block) w w1 → w1.heap.size = w.heap.size → C w1) : StoreQ w ((a.add (c * 4)).add 3) [.int .i64 v] C := by
  obtain ⟨hcl, hck⟩ := List.getElem?_eq_some_iff.1 hk
  have hlen := h.own.length
  obtain ⟨_, _, cur, hcb⟩ := h.caOwn rfl
  rw [Addr.add_add]
  refine h.own.storeAt (by simp; omega) (by simp) rfl fun w1 ho f s1 => H w1 (patch xs (c * 4 + 3) [.int .i64 v]) ?_ f s1
  have hsl : (s.setK c { k with live := v }).kls.length = s.kls.length := by simp [Arn.setK]
  refine ⟨by rw [hsl]; exact f.b h.here (ne_of_types h.here hcb (by decide)), h.foot, h.free, by rw [hsl]; exact ho, fun i k' hi => ?_, fun i j x y => by rw [hsl]; exact h.apart i j x y⟩
  have hp : ∀ j, j ≠ c * 4 + 3 → (patch xs (c * 4 + 3) [.int .i64 v])[j]? = xs[j]? := fun j hj => patch_out (by simp; omega) (by simp; omega)
  have keepS : ∀ {A : Option Addr} {n cp : Nat} {l : List Slot}, (∀ x, A = some x → ∃ cur, Blk w x.block 188 cur) → SlotsAt w F A n cp l → SlotsAt w1 F A n cp l := fun hA hs =>
    slots_keep hs hcb (by decide) (fun x hx => by obtain ⟨cur', hb'⟩ := hA x hx; exact ne_of_types hb' hcb (by decide)) f
  simp only [Arn.setK, List.getElem?_set] at hi
  split at hi
  · rename_i e
    subst e
    try rw [if_pos hcl] at hi
    obtain rfl := Option.some.inj hi
    have hk0 := h.kls c k hk
    obtain ⟨cp, g1, g2⟩ := hk0.slots
    refine ⟨by rw [hp _ (by omega)]; exact hk0.size, by rw [hp _ (by omega)]; exact hk0.count, patch_in (by simp; omega) (j := 0) (by simp), cp, by rw [hp _ (by omega)]; exact g1, keepS (fun x hx => (h.slotsOwn hk hx).2.2) g2⟩
  · rename_i e
    have hk0 := h.kls i k' hi
    obtain ⟨cp, g1, g2⟩ := hk0.slots
    exact ⟨by rw [hp _ (by omega)]; exact hk0.size, by rw [hp _ (by omega)]; exact hk0.count, by rw [hp _ (by omega)]; exact hk0.live, cp, by rw [hp _ (by omega)]; exact g1, keepS (fun x hx => (h.slotsOwn hi hx).2.2) g2⟩

/-- a field of a slot is stored -/
theorem storeSlot {C : World → Prop} (h : ArenaIn w F ab s CA cc xs sa) {c at_ j : Nat} {k : Kls} {t t' : Slot} {v : Value} {a : Addr} (hk : s.kls[c]? = some k) (ht : k.slots[at_]? = some t) (ha : sa c = some a) (hj : j < 4) (hv : one v = true)
    (ht' : ∀ dA dc, BytesAt w F dA dc t.data → ∃ dA' dc', slotVals t' dA' dc' = (slotVals t dA dc).set j v ∧ BytesAt w F dA' dc' t'.data)
    (H : ∀ w1, ArenaIn w1 F ab (s.setK c (k.setS at_ t')) CA cc xs sa → Fr (fun i => i = a.block) w w1 → w1.heap.size = w.heap.size → C w1) : StoreQ w ((a.add (at_ * 4)).add j) [v] C := by
  obtain ⟨hcl, hck⟩ := List.getElem?_eq_some_iff.1 hk
  obtain ⟨htl, htk⟩ := List.getElem?_eq_some_iff.1 ht
  have hk0 := h.kls c k hk
  obtain ⟨cp, g1, g2⟩ := hk0.slots
  obtain ⟨ys, ho, hy⟩ := g2.own
  have hsb := h.slotsOwn hk ha
  obtain ⟨_, hfa, cur, hcb⟩ := hsb
  rw [ha] at ho g1 g2 hk0
  have hlen := ho.length
  rw [Addr.add_add]
  refine ho.storeAt (by simp; omega) (by simp) (by simp [hv]) fun w1 ho1 f s1 => H w1 ?_ f s1
  have hsl : (s.setK c (k.setS at_ t')).kls.length = s.kls.length := by simp [Arn.setK]
  have hp : ∀ i, i ≠ at_ * 4 + j → (patch ys (at_ * 4 + j) [v])[i]? = ys[i]? := fun i hi => patch_out (by simp; omega) (by simp; omega)
  have hca : ∀ x, CA = some x → ¬ x.block = a.block := fun x hx e => by
    obtain ⟨_, _, cur', hb'⟩ := h.caOwn hx
    exact ne_of_types hb' hcb (by decide) e
  have hkeepB : ∀ {A : Option Addr} {c : Nat} {bs : List Int}, BytesAt w F A c bs → BytesAt w1 F A c bs := fun {A c bs} hb => by
    have hn : ∀ x : Addr, A = some x → ¬ x.block = a.block := fun x hx e => Tg.not hcb (by decide) (e ▸ (hb.foot x hx).2)
    refine ⟨hb.nil, hb.row.frame f hn, fun x hx => ?_⟩
    obtain ⟨hF, T, cs, hb', hT⟩ := hb.foot x hx
    exact ⟨hF, T, cs, f.get hb' (hn x hx), hT⟩
  refine ⟨by rw [hsl]; exact f.b h.here (ne_of_types h.here hcb (by decide)), h.foot, h.free, by rw [hsl]; exact h.own.frame f hca, fun i k' hi => ?_, fun i j x y => by rw [hsl]; exact h.apart i j x y⟩
  · simp only [Arn.setK, List.getElem?_set] at hi
    split at hi
    · rename_i e
      subst e
      try rw [if_pos hcl] at hi
      obtain rfl := Option.some.inj hi
      have hsl2 : (k.setS at_ t').slots.length = k.slots.length := by simp [Kls.setS]
      refine ⟨hk0.size, hk0.count, hk0.live, cp, by rw [hsl2, ha]; exact g1, by simp, fun x hx => by rw [ha] at hx; cases hx; exact hfa, patch ys (at_ * 4 + j) [v], by rw [hsl2, ha]; exact ho1, fun i t2 hi2 => ?_⟩
      simp only [Kls.setS, List.getElem?_set] at hi2
      split at hi2
      · rename_i e2
        subst e2
        try rw [if_pos htl] at hi2
        obtain rfl := Option.some.inj hi2
        obtain ⟨dA, dc, y0, y1, y2, y3, y4⟩ := hy at_ t ht
        obtain ⟨dA', dc', hv', hb'⟩ := ht' dA dc y4
        have key : ∀ m, m < 4 → (patch ys (at_ * 4 + j) [v])[at_ * 4 + m]? = (slotVals t' dA' dc')[m]? := fun m hm => by
          rw [hv', List.getElem?_set]
          by_cases hmj : j = m
          · subst hmj
            have := patch_in (xs := ys) (k := at_ * 4 + j) (vs := [v]) (by simp; omega) (j := 0) (by simp)
            rw [Nat.add_zero] at this
            rw [this]
            simp [slotVals, hj]
          · rw [if_neg hmj, hp _ (by omega)]
            match m, hm with
            | 0, _ => exact y0
            | 1, _ => exact y1
            | 2, _ => exact y2
            | 3, _ => exact y3
        exact ⟨dA', dc', key 0 (by omega), key 1 (by omega), key 2 (by omega), key 3 (by omega), hkeepB hb'⟩
      · rename_i e2
        obtain ⟨dA, dc, y0, y1, y2, y3, y4⟩ := hy i t2 hi2
        exact ⟨dA, dc, by rw [hp _ (by omega)]; exact y0, by rw [hp _ (by omega)]; exact y1, by rw [hp _ (by omega)]; exact y2, by rw [hp _ (by omega)]; exact y3, hkeepB y4⟩
    · rename_i e
      have hk1 := h.kls i k' hi
      obtain ⟨cp', g1', g2'⟩ := hk1.slots
      have hil := (List.getElem?_eq_some_iff.1 hi).1
      exact ⟨hk1.size, hk1.count, hk1.live, cp', g1', slots_keep g2' hcb (by decide) (fun x hx => h.apart i c x a (fun e' => e e'.symm) hil hcl hx ha) f⟩

end ArenaIn
end Go.Proofs.YtdaookipaknoeaaGreat
