/-
  arena.Alloc.
-/
import Derived.Test.YtdaookipaknoeaaGreatArena4
namespace Go.Proofs.YtdaookipaknoeaaGreat
open Go
set_option linter.unusedVariables false

namespace ArenaIn
variable {w w0 w1 : World} {F G : Nat → Prop} {ab : Nat} {s : Arn} {CA : Option Addr} {cc : Nat} {xs : List Value} {sa : Nat → Option Addr}

theorem slots_mono {w : World} {F G : Nat → Prop} {A : Option Addr} {n c : Nat} {l : List Slot} (h : SlotsAt w F A n c l) (hG : ∀ i, i < w.heap.size → F i → G i) : SlotsAt w G A n c l :=
  h.keep (Fr.refl (fun _ => False) w) (fun _ _ => id) (fun _ _ _ => id) hG

theorem monoF (h : ArenaIn w F ab s CA cc xs sa) (hG : ∀ i, i < w.heap.size → F i → G i) : ArenaIn w G ab s CA cc xs sa :=
  ⟨h.here, ⟨hG _ (lt_of_blk h.here) h.foot.1, fun x hx => hG _ (h.own.lt x hx) (h.foot.2 x hx)⟩, h.free, h.own, fun i k hi => by
    have hk := h.kls i k hi
    obtain ⟨c, g1, g2⟩ := hk.slots
    exact ⟨hk.size, hk.count, hk.live, c, g1, slots_mono g2 hG⟩, h.apart⟩

theorem klsCell {a : Addr} (h : ArenaIn w F ab s (some a) cc xs sa) {c : Nat} {k : Kls} (hk : s.kls[c]? = some k) :
    w.cell? (a.add (c * 4)) = some (.int .i64 k.size) ∧ w.cell? ((a.add (c * 4)).add 1) = some (.int .i64 k.count) ∧ w.cell? ((a.add (c * 4)).add 3) = some (.int .i64 k.live) ∧
      ∃ cp, w.cell? ((a.add (c * 4)).add 2) = some (.slice (sa c) k.slots.length cp) ∧ SlotsAt w F (sa c) k.slots.length cp k.slots := by
  have hk0 := h.kls c k hk
  obtain ⟨cp, g1, g2⟩ := hk0.slots
  simp only [Addr.add_add]
  exact ⟨h.own.cell hk0.size, h.own.cell hk0.count, h.own.cell hk0.live, cp, h.own.cell g1, g2⟩

theorem slotCell {b : Addr} (h : ArenaIn w F ab s CA cc xs sa) {c i : Nat} {k : Kls} {t : Slot} (hk : s.kls[c]? = some k) (ht : k.slots[i]? = some t) (hb : sa c = some b) :
    w.cell? (b.add (i * 4)) = some (.int .i64 t.age) ∧ w.cell? ((b.add (i * 4)).add 1) = some (.bool t.used) ∧ w.cell? ((b.add (i * 4)).add 2) = some (.int .i64 t.next) ∧
      ∃ dA dc, w.cell? ((b.add (i * 4)).add 3) = some (.slice dA t.data.length dc) ∧ BytesAt w F dA dc t.data := by
  obtain ⟨cp, g1, g2⟩ := (h.kls c k hk).slots
  obtain ⟨ys, ho, hy⟩ := g2.own
  rw [hb] at ho
  obtain ⟨dA, dc, y0, y1, y2, y3, y4⟩ := hy i t ht
  simp only [Addr.add_add]
  exact ⟨ho.cell y0, ho.cell y1, ho.cell y2, dA, dc, ho.cell y3, y4⟩

theorem slotSome (h : ArenaIn w F ab s CA cc xs sa) {c i : Nat} {k : Kls} {t : Slot} (hk : s.kls[c]? = some k) (ht : k.slots[i]? = some t) : ∃ b, sa c = some b := by
  obtain ⟨cp, g1, g2⟩ := (h.kls c k hk).slots
  obtain ⟨ys, ho, hy⟩ := g2.own
  exact ho.ex (by have := (List.getElem?_eq_some_iff.1 ht).1; omega)

/-- the slots of a class are another slice now -/
theorem storeSlots {C : World → Prop} {a : Addr} (h : ArenaIn w0 F ab s (some a) cc xs sa) {c : Nat} {k : Kls} (hk : s.kls[c]? = some k) (f0 : Fr (fun i => ∃ x, sa c = some x ∧ i = x.block) w0 w) (hG : ∀ i, i < w0.heap.size → F i → G i)
    {A' : Option Addr} {n' c' : Nat} {l' : List Slot} (hs : SlotsAt w G A' n' c' l') (hA : A' = sa c ∨ ∃ b, A' = some ⟨b, 0, none⟩ ∧ w0.heap.size ≤ b)
    (H : ∀ w1 ys, ArenaIn w1 G ab (s.setK c { k with slots := l' }) (some a) cc ys (fun i => if i = c then A' else sa i) → Fr (fun i => i = a.block) w w1 → w1.heap.size = w.heap.size → C w1) : StoreQ w ((a.add (c * 4)).add 2) [.slice A' n' c'] C := by
  obtain ⟨hcl, hck⟩ := List.getElem?_eq_some_iff.1 hk
  have hlen := h.own.length
  obtain ⟨_, hFa, cur, hcb0⟩ := h.caOwn rfl
  have hca0 : ∀ x, some a = some x → ¬ ∃ y, sa c = some y ∧ x.block = y.block := fun x hx ⟨y, hy, e⟩ => by
    cases hx
    obtain ⟨_, _, cur', hb'⟩ := h.slotsOwn hk hy
    exact ne_of_types hcb0 hb' (by decide) e
  have how := h.own.frame f0 hca0
  have hcb : Blk w a.block 104 cur := f0.b hcb0 (hca0 a rfl)
  have hab : Blk w ab 99 (arnCells (some a) s.kls.length cc s.free s.faults) := f0.b h.here fun ⟨y, hy, e⟩ => by
    obtain ⟨_, _, cur', hb'⟩ := h.slotsOwn hk hy
    exact ne_of_types h.here hb' (by decide) e
  rw [Addr.add_add]
  refine how.storeAt (by simp; omega) (by simp) rfl fun w1 ho f s1 => H w1 (patch xs (c * 4 + 2) [.slice A' n' c']) ?_ f s1
  have hsl : (s.setK c { k with slots := l' }).kls.length = s.kls.length := by simp [Arn.setK]
  have hfr := f0.size
  have hp : ∀ j, j ≠ c * 4 + 2 → (patch xs (c * 4 + 2) [.slice A' n' c'])[j]? = xs[j]? := fun j hj => patch_out (by simp; omega) (by simp; omega)
  have hlt : ∀ {i : Nat} {k' : Kls} {x : Addr}, s.kls[i]? = some k' → sa i = some x → x.block < w0.heap.size := fun hi hx => by
    obtain ⟨_, _, cur', hb'⟩ := h.slotsOwn hi hx
    exact lt_of_blk hb'
  refine ⟨by rw [hsl]; exact f.b hab (ne_of_types hab hcb (by decide)), ⟨hG _ (lt_of_blk h.here) h.foot.1, fun x hx => hG _ (h.own.lt x hx) (h.foot.2 x hx)⟩, h.free, by rw [hsl]; exact ho, fun i k' hi => ?_, ?_⟩
  · simp only [Arn.setK, List.getElem?_set] at hi
    split at hi
    · rename_i e
      subst e
      try rw [if_pos hcl] at hi
      obtain rfl := Option.some.inj hi
      have hk0 := h.kls c k hk
      have hs1 : SlotsAt w1 G A' n' c' l' := slots_keep hs hcb (by decide) (fun x hx => by
        obtain ⟨ys, hys, _⟩ := hs.own
        rw [hx] at hys
        obtain ⟨_, cur', hb'⟩ := hys.blk
        exact ne_of_types hb' hcb (by decide)) f
      refine ⟨by rw [hp _ (by omega)]; exact hk0.size, by rw [hp _ (by omega)]; exact hk0.count, by rw [hp _ (by omega)]; exact hk0.live, c', ?_, ?_⟩
      · rw [if_pos rfl]
        have := patch_in (xs := xs) (k := c * 4 + 2) (vs := [.slice A' n' c']) (by simp; omega) (j := 0) (by simp)
        rw [Nat.add_zero] at this
        rw [this, hs.len]
        rfl
      · rw [if_pos rfl, hs.len]; exact hs1
    · rename_i e
      have hk0 := h.kls i k' hi
      obtain ⟨cp, g1, g2⟩ := hk0.slots
      have hil := (List.getElem?_eq_some_iff.1 hi).1
      have e' : ¬ i = c := fun e' => e e'.symm
      refine ⟨by rw [hp _ (by omega)]; exact hk0.size, by rw [hp _ (by omega)]; exact hk0.count, by rw [hp _ (by omega)]; exact hk0.live, cp, by rw [if_neg e', hp _ (by omega)]; exact g1, ?_⟩
      rw [if_neg e']
      have g3 : SlotsAt w G (sa i) k'.slots.length cp k'.slots := g2.keep f0 (fun x hx ⟨y, hy, e2⟩ => h.apart i c x y e' hil hcl hx hy e2)
        (fun j _ hj ⟨y, hy, e2⟩ => by obtain ⟨_, _, cur', hb'⟩ := h.slotsOwn hk hy; subst e2; exact Tg.not hb' (by decide) hj) hG
      refine slots_keep g3 hcb (by decide) (fun x hx => ?_) f
      obtain ⟨_, _, cur', hb'⟩ := h.slotsOwn hi hx
      exact ne_of_types hb' hcb0 (by decide)
  · intro i j x y hij hil hjl hx hy
    rw [hsl] at hil hjl
    by_cases hi : i = c
    · subst hi
      have hj : ¬ j = i := fun e => hij e.symm
      rw [if_pos rfl] at hx
      rw [if_neg hj] at hy
      rcases hA with e | ⟨b, e, hb⟩
      · rw [e] at hx; exact h.apart i j x y hij hil hjl hx hy
      · rw [e] at hx; cases hx
        have := hlt (List.getElem?_eq_getElem hjl) hy
        simp only; omega
    · rw [if_neg hi] at hx
      by_cases hj : j = c
      · subst hj
        rw [if_pos rfl] at hy
        rcases hA with e | ⟨b, e, hb⟩
        · rw [e] at hy; exact h.apart i j x y hij hil hjl hx hy
        · rw [e] at hy; cases hy
          have := hlt (List.getElem?_eq_getElem hil) hx
          simp only; omega
      · rw [if_neg hj] at hy
        exact h.apart i j x y hij hil hjl hx hy
end ArenaIn

/-- which slot of a class is taken: the first free one, or a new one; s2: the arena with that slot, not yet taken -/
def AStep (s : Arn) (c : Nat) (k : Kls) (i : Nat) (t : Slot) (k2 : Kls) (s2 : Arn) : Prop :=
  (s.free[c]? = some (i : Int) ∧ k.slots[i]? = some t ∧ k2 = k ∧ s2 = { s with free := s.free.set c t.next }) ∨
  (s.free[c]? = some (-1) ∧ (k.slots.length : Int) < k.count ∧ i = k.slots.length ∧ t = ⟨0, false, 0, []⟩ ∧ k2 = { k with slots := k.slots ++ [t] } ∧ s2 = s.setK c k2)

end Go.Proofs.YtdaookipaknoeaaGreat
