/-
  Slices that their holder owns (they lie from the start of a block that nobody else writes), and append to them.
-/
import Derived.Test.YtdaookipaknoeaaGreatKit
import Derived.Maps.AppendAt
import Derived.Laws.OwnMore
namespace Go.Proofs.YtdaookipaknoeaaGreat
open Go
set_option linter.unusedVariables false

/-- the slice (A, n, c) is nil, or lies from the start of a block of elements of type e with sz cells each; xs: the cells of its n elements -/
def Own (w : World) (e : TypeId) (sz : Nat) (A : Option Addr) (n c : Nat) (xs : List Value) : Prop := w.ownsRow 0 e sz (.slice A n c) n xs

namespace Own
variable {w w1 : World} {e : TypeId} {sz : Nat} {A : Option Addr} {n c : Nat} {xs : List Value}

theorem nil (w : World) (e sz : Nat) : Own w e sz none 0 0 [] := World.ownsRow_nil w 0 e sz

theorem length (h : Own w e sz A n c xs) : xs.length = n * sz := h.1

theorem cases (h : Own w e sz A n c xs) : (A = none ∧ n = 0 ∧ c = 0 ∧ xs = []) ∨ ∃ b cur, A = some ⟨b, 0, none⟩ ∧ Blk w b e cur ∧ n ≤ c ∧ c ≤ maxLen ∧ cur.size = c * sz ∧ cur.toList.take (n * sz) = xs := by
  rcases h.2 with ⟨h1, h2⟩ | ⟨g, cap, cur, h1, _, h2, h3, h4, h5, h6⟩
  · simp only [Value.slice.injEq] at h1
    obtain ⟨rfl, rfl, rfl⟩ := h1
    exact .inl ⟨rfl, rfl, rfl, List.eq_nil_of_length_eq_zero (by simpa using h.1)⟩
  · simp only [Value.slice.injEq, true_and] at h1
    obtain ⟨rfl, rfl⟩ := h1
    exact .inr ⟨g, cur, rfl, h2, h3, h4, h5, h6⟩

theorem mk {b : Nat} {cur : Array Value} (hb : Blk w b e cur) (hn : n ≤ c) (hc : c ≤ maxLen) (hs : cur.size = c * sz) : Own w e sz (some ⟨b, 0, none⟩) n c (cur.toList.take (n * sz)) :=
  ⟨by rw [List.length_take, Array.length_toList, hs]; exact Nat.min_eq_left (Nat.mul_le_mul_right _ hn), .inr ⟨b, c, cur, rfl, Nat.zero_le _, hb, hn, hc, hs, rfl⟩⟩

/-- a block that is just as great as the slice -/
theorem full {b : Nat} {cur : Array Value} (hb : Blk w b e cur) (hc : n ≤ maxLen) (hs : cur.size = n * sz) : Own w e sz (some ⟨b, 0, none⟩) n n cur.toList := by
  have := mk hb (Nat.le_refl n) hc hs
  rw [List.take_of_length_le (by simp [hs])] at this
  exact this

theorem frame {S : Nat → Prop} (h : Own w e sz A n c xs) (f : Fr S w w1) (hn : ∀ x, A = some x → ¬ S x.block) : Own w1 e sz A n c xs := by
  rcases h.cases with ⟨rfl, rfl, rfl, rfl⟩ | ⟨b, cur, rfl, h2, h3, h4, h5, rfl⟩
  · exact nil w1 e sz
  · exact mk (f.get h2 (hn _ rfl)) h3 h4 h5

theorem drew (h : Own w e sz A n c xs) : Own w.drew e sz A n c xs := h

theorem row (h : Own w e sz A n c xs) : Row w A xs := by
  rcases h.cases with ⟨rfl, rfl, rfl, rfl⟩ | ⟨b, cur, rfl, h2, h3, h4, h5, rfl⟩
  · exact Row.nil _ _
  · intro i v hv
    refine ⟨_, rfl, ?_⟩
    rw [Addr.add_mk, Nat.zero_add, cell_blk h2]
    rw [List.getElem?_take] at hv
    split at hv
    · simpa using hv
    · cases hv

theorem lt (h : Own w e sz A n c xs) : ∀ x, A = some x → x.block < w.heap.size := by
  rcases h.cases with ⟨rfl, rfl, rfl, rfl⟩ | ⟨b, cur, rfl, h2, h3, h4, h5, rfl⟩
  · intro x hx; cases hx
  · intro x hx; cases hx; exact lt_of_blk h2

theorem len (h : Own w e sz A n c xs) : n ≤ c ∧ c ≤ maxLen := by
  rcases h.cases with ⟨rfl, rfl, rfl, rfl⟩ | ⟨b, cur, rfl, h2, h3, h4, h5, rfl⟩
  · simp
  · exact ⟨h3, h4⟩

/-- the cells from the start of an element on are stored -/
theorem store {C : World → Prop} (h : Own w e sz A n c xs) {k : Nat} {vs : List Value} (hk : k + vs.length ≤ n * sz) (h0 : vs ≠ []) (ho : vs.all one = true)
    (H : ∀ w1, Own w1 e sz A n c (xs.take k ++ vs ++ xs.drop (k + vs.length)) → Fr (fun i => ∃ x, A = some x ∧ i = x.block) w w1 → w1.heap.size = w.heap.size → C w1) :
    optQ A fun a => StoreQ w (a.add k) vs C := by
  rcases h.cases with ⟨rfl, rfl, rfl, rfl⟩ | ⟨b, cur, rfl, h2, h3, h4, h5, rfl⟩
  · have := List.length_pos_iff.2 h0
    simp only [Nat.zero_mul] at hk
    omega
  · show StoreQ w (Addr.add ⟨b, 0, none⟩ k) vs C
    have hle : n * sz ≤ c * sz := Nat.mul_le_mul_right _ h3
    rw [Addr.add_mk, Nat.zero_add]
    refine StoreQ.of h2 (by rw [h5]; omega) ho fun w1 hb f s => H w1 ?_ (f.mono fun i _ hi => ⟨_, rfl, hi⟩) s
    have := mk (n := n) hb h3 h4 (by rw [size_setL]; exact h5)
    rw [setL_toList _ _ _ (by rw [h5]; omega)] at this
    have e : (cur.toList.take k ++ vs ++ cur.toList.drop (k + vs.length)).take (n * sz) = (cur.toList.take (n * sz)).take k ++ vs ++ (cur.toList.take (n * sz)).drop (k + vs.length) := by
      have hcl : cur.toList.length = c * sz := by simp [h5]
      rw [List.take_append, List.take_append, List.take_take, List.length_append, List.length_take, hcl, Nat.min_eq_left (by omega : k ≤ c * sz),
        List.take_take, Nat.min_eq_right (by omega : k ≤ n * sz), List.take_of_length_le (by omega : vs.length ≤ n * sz - k), List.drop_take, Nat.min_eq_left (by omega : k ≤ n * sz)]
    rw [e] at this
    exact this
end Own

/-- appending to an own slice -/
theorem AppQ.own {P : Program} {w : World} {t ty e : TypeId} {z : Value} {sz bytes : Nat} {A B : Option Addr} {n c m k : Nat} {xs news : List Value} {C : Option Addr → Nat → Nat → World → Prop}
    (hm : makes P t e z sz bytes) (hz : z.cells.size = sz) (hsz : 0 < sz) (h : Own w e sz A n c xs) (hB : Row w B news) (hl : news.length = m * sz) (hk : B = none → k = 0) (h1 : news.all one = true) (h63 : n + m ≤ maxLen)
    (hb : (n + m) * bytes ≤ 140737488355328)
    (H : ∀ A' c' w1, Own w1 e sz A' (n + m) c' (xs ++ news) → Fr (fun i => ∃ a, A = some a ∧ i = a.block) w w1 → (A' = A ∨ ∃ b, A' = some ⟨b, 0, none⟩ ∧ b = w.heap.size) → (A' = none → A = none ∧ m = 0) → C A' (n + m) c' w1) :
    AppQ P #[t, t] ty (.slice A n c) (.slice B m k) w C := by
  obtain ⟨ht, i, hi, hzi, hs, hby⟩ := hm
  cases B with
  | none =>
    have hnews : news = [] := by
      cases news with
      | nil => rfl
      | cons v l => obtain ⟨x, hx, _⟩ := hB 0 v rfl; cases hx
    subst hnews
    have hm0 : m = 0 := by
      rcases Nat.eq_zero_or_pos m with h0 | h0
      · exact h0
      · have := Nat.mul_pos h0 hsz; simp at hl; omega
    subst hm0
    have hk0 := hk rfl
    subst hk0
    refine ⟨A, n, c, w, run_append_owned_none (P := P) (w := w) 0 t ty e i sz ht hi _ n xs h, ?_⟩
    have := H A c w (by simpa using h) (Fr.refl _ _) (.inl rfl) (fun h => ⟨h, rfl⟩)
    simpa using this
  | some a =>
    obtain ⟨v', w', hr, hown, hg, hnil, hblk⟩ := run_append_own_at (P := P) (w := w) 0 t ty e i z sz bytes ht hi hzi hs hby hz hsz _ n xs h a m k news hl
      (fun j u hu => by obtain ⟨x, hx, hc⟩ := hB j u hu; cases hx; exact hc) (fun u hu => by have := List.all_eq_true.1 h1 u hu; cases u <;> first | rfl | simp [one] at this) h63 hb (Nat.zero_le _)
    have hf : Fr (fun i => ∃ x, A = some x ∧ i = x.block) w w' := ⟨hg.size, fun k hk hn => hg.block k hk fun hk' => hn (by
      cases A with
      | none => simp [Value.ownBlock] at hk'
      | some x => simp [Value.ownBlock] at hk'; exact ⟨x, rfl, hk'⟩), hg.os, hg.tape, hg.output⟩
    rcases hown.2 with ⟨rfl, hn0⟩ | ⟨g, cap, cur, rfl, _, hc2, hc3, hc4, hc5, hc6⟩
    · obtain ⟨e1, e2⟩ := hnil.1 rfl
      simp only [Value.slice.injEq] at e1
      obtain ⟨rfl, rfl, rfl⟩ := e1
      subst e2
      exact ⟨none, 0, 0, w', hr, H none 0 w' hown hf (.inl rfl) (fun _ => ⟨rfl, rfl⟩)⟩
    · refine ⟨_, _, _, w', hr, H _ _ w' hown hf ?_ (fun h => by cases h)⟩
      rcases hblk with hb | hb
      · cases A with
        | none => simp [Value.ownBlock] at hb
        | some x =>
          rcases h.cases with ⟨h', _⟩ | ⟨b, cur', h', _⟩
          · cases h'
          · cases h'
            simp only [Value.ownBlock, Option.some.injEq] at hb
            subst hb
            exact .inl rfl
      · simp only [Value.ownBlock, Option.some.injEq] at hb
        exact .inr ⟨g, rfl, hb⟩

end Go.Proofs.YtdaookipaknoeaaGreat
