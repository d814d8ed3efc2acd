/-
  Maps with keys of a plain kind.
-/
import Derived.Test.YtdaookipaknoeaaGreatTags
import Derived.MapKept
namespace Go.Proofs.YtdaookipaknoeaaGreat
open Go Go.MapKept
set_option linter.unusedVariables false

/-- block r is a map with n entries; m: what lies under each key -/
def MapAt (w : World) (r : Nat) (d : TypeDesc) (m : Value → Option Value) (n : Nat) : Prop :=
  ∃ es clock, w.heap[r]? = some (.map es clock) ∧ Stamped es clock ∧ (∀ x ∈ es.toList, IsKey d x.key) ∧ es.size = n ∧ ∀ k v, m k = some v ↔ ∃ x ∈ es.toList, x.key = k ∧ x.val = v

namespace MapAt
variable {P : Program} {w w1 : World} {r n : Nat} {d : TypeDesc} {m : Value → Option Value} {t kt et : TypeId}

theorem frame {S : Nat → Prop} (h : MapAt w r d m n) (f : Fr S w w1) (hn : ¬ S r) : MapAt w1 r d m n := by
  obtain ⟨es, c, hb, h⟩ := h; exact ⟨es, c, f.get hb hn, h⟩

theorem lt (h : MapAt w r d m n) : r < w.heap.size := by obtain ⟨es, c, hb, h⟩ := h; exact lt_of_blk hb

theorem len (h : MapAt w r d m n) : MapLen w (some r) n := by obtain ⟨es, c, hb, _, _, hs, _⟩ := h; exact ⟨es, c, hb, hs⟩

theorem new (w : World) (t : TypeId) : ∃ w1, (Instr.makeMap t none).run P w = .ok (.map (some w.heap.size)) w1 ∧ MapAt w1 w.heap.size d (fun _ => none) 0 ∧ Ext w w1 :=
  ⟨w.alloc (.map #[] 0), rfl, ⟨#[], 0, (heap_alloc w _).1, stamped_empty 0, by simp, rfl, by simp⟩, ext_push w _⟩

/-- v, ok := m[k] -/
theorem get (h : MapAt w r d m n) (ht : P.underlying t = some (.map kt et)) (hd : P.underlying kt = some d) {k z : Value} (hk : IsKey d k) (hz : (zeroValue et).run P w = .ok z w) (ok : Bool) :
    (Instr.lookup t (.map (some r)) k ok).run P w = .ok (if ok then .tuple #[(m k).getD z, .bool (m k).isSome] else (m k).getD z) w := by
  obtain ⟨es, c, hb, hst, hks, hs, hm⟩ := h
  rcases findNow_spec hk es.toList 0 hks with ⟨h1, h2⟩ | ⟨j, e, h1, h2, h3⟩
  · have hn : m k = none := by
      cases hmk : m k with
      | none => rfl
      | some v => obtain ⟨x, hx, hxk, _⟩ := (hm k v).1 hmk; exact absurd hxk (h2 x hx)
    simp only [Instr.lookup, Sem.run_bind, run_underlying ht, Result.andThen_ok, Go.MapKept.run_getObj_map hb, Sem.run_pure, run_checkKey hd hk, run_findKey hd h1, hz, hn]
    cases ok <;> rfl
  · have hn : m k = some e.val := (hm k e.val).2 ⟨e, List.mem_of_getElem? h2, h3, rfl⟩
    simp only [Instr.lookup, Sem.run_bind, run_underlying ht, Result.andThen_ok, Go.MapKept.run_getObj_map hb, Sem.run_pure, run_checkKey hd hk, run_findKey hd h1, hn]
    cases ok <;> rfl

theorem fr_set {o : Obj} (r : Nat) : Fr (fun i => i = r) w { w with heap := w.heap.setIfInBounds r o } :=
  ⟨by simp, fun i hi hn => by simp [Ne.symm hn], rfl, rfl, rfl⟩

/-- m[k] = v -/
theorem set (h : MapAt w r d m n) (ht : P.underlying t = some (.map kt et)) (hd : P.underlying kt = some d) {k : Value} (hk : IsKey d k) (v : Value) :
    ∃ w1, (Instr.mapUpdate t (.map (some r)) k v).run P w = .ok () w1 ∧ (∀ m' : Value → Option Value, m' k = some v → (∀ x, x ≠ k → m' x = m x) → MapAt w1 r d m' (if (m k).isSome then n else n + 1)) ∧ Fr (fun i => i = r) w w1 ∧ w1.heap.size = w.heap.size := by
  obtain ⟨es, c, hb, hst, hks, hs, hm⟩ := h
  rcases findNow_spec hk es.toList 0 hks with ⟨h1, h2⟩ | ⟨j, e, h1, h2, h3⟩
  · have hn : m k = none := by
      cases hmk : m k with
      | none => rfl
      | some v => obtain ⟨x, hx, hxk, _⟩ := (hm k v).1 hmk; exact absurd hxk (h2 x hx)
    refine ⟨{ w with heap := w.heap.setIfInBounds r (.map (es.push { key := k, val := v, born := c }) (c + 1)) }, ?_, fun m' hm1 hm2 => ⟨_, _, (heap_set hb).1, stamped_push hst h2, ?_, by simp [hn, hs], ?_⟩, fr_set r, by simp⟩
    · simp [Instr.mapUpdate, run_underlying ht, Go.MapKept.run_getObj_map hb, run_checkKey hd hk, run_findKey hd h1, run_setObj_map _ hb, Result.andThen]
    · intro x hx
      simp only [Array.toList_push, List.mem_append, List.mem_singleton] at hx
      rcases hx with hx | rfl
      · exact hks x hx
      · exact hk
    · intro k' v'
      simp only [Array.toList_push, List.mem_append, List.mem_singleton]
      by_cases hkk : k' = k
      · subst hkk
        rw [hm1]
        constructor
        · intro h; cases h; exact ⟨_, .inr rfl, rfl, rfl⟩
        · rintro ⟨x, hx | rfl, h4, h5⟩
          · exact absurd h4 (h2 x hx)
          · rw [← h5]
      · rw [hm2 _ hkk, hm]
        constructor
        · rintro ⟨x, hx, h4⟩; exact ⟨x, .inl hx, h4⟩
        · rintro ⟨x, hx | rfl, h4, h5⟩
          · exact ⟨x, hx, h4, h5⟩
          · exact absurd h4.symm hkk
  · have hj : es[j]? = some e := by simpa using h2
    have hn : m k = some e.val := (hm k e.val).2 ⟨e, List.mem_of_getElem? h2, h3, rfl⟩
    have hkey : ∀ e', es[j]? = some e' → ({ e' with key := k, val := v } : MapEntry).key = e'.key := fun e' he' => by rw [hj] at he'; cases he'; exact h3.symm
    refine ⟨{ w with heap := w.heap.setIfInBounds r (.map (es.modify j fun e => { e with key := k, val := v }) c) }, ?_, fun m' hm1 hm2 => ⟨_, _, (heap_set hb).1, stamped_modify hst _ _ (fun _ _ => rfl) (fun e' _ he' => hkey e' he'), isKey_modify hks _ _ hkey, by simp [hn, hs], ?_⟩, fr_set r, by simp⟩
    · simp [Instr.mapUpdate, run_underlying ht, Go.MapKept.run_getObj_map hb, run_checkKey hd hk, run_findKey hd h1, hj, h3, run_keyThatStays hk, run_setObj_map _ hb, Result.andThen]
    · intro k' v'
      have hmem : ∀ x, x ∈ (es.modify j fun e => { e with key := k, val := v }).toList ↔ (∃ i y, es[i]? = some y ∧ i ≠ j ∧ x = y) ∨ x = { e with key := k, val := v } := by
        intro x
        rw [Array.mem_toList_iff, Array.mem_iff_getElem?]
        simp only [Array.getElem?_modify]
        constructor
        · rintro ⟨i, hi⟩
          split at hi
          · rename_i hij; subst hij
            rw [hj] at hi
            simp only [Option.map_some, Option.some.injEq] at hi
            exact .inr hi.symm
          · rename_i hij
            exact .inl ⟨i, x, hi, fun e => hij e.symm, rfl⟩
        · rintro (⟨i, y, hi, hij, rfl⟩ | rfl)
          · exact ⟨i, by rw [if_neg (fun e => hij e.symm)]; exact hi⟩
          · exact ⟨j, by rw [if_pos rfl, hj]; rfl⟩
      by_cases hkk : k' = k
      · subst hkk
        rw [hm1]
        constructor
        · intro h; cases h; exact ⟨_, (hmem _).2 (.inr rfl), rfl, rfl⟩
        · rintro ⟨x, hx, h4, h5⟩
          rcases (hmem x).1 hx with ⟨i, y, hi, hij, rfl⟩ | rfl
          · exfalso
            have hp := (stamped_iff es c).1 hst |>.2.2
            rw [List.pairwise_iff_getElem] at hp
            have hil : i < es.toList.length := by have := (Array.getElem?_eq_some_iff.1 hi).1; simpa using this
            have hjl : j < es.toList.length := (List.getElem?_eq_some_iff.1 h2).1
            have e1 : es.toList[i] = x := by have := (Array.getElem?_eq_some_iff.1 hi).2; simpa using this
            have e2 : es.toList[j] = e := (List.getElem?_eq_some_iff.1 h2).2
            rcases Nat.lt_or_gt_of_ne hij with hlt | hgt
            · exact hp i j hil hjl hlt (by rw [e1, e2, h4, h3])
            · exact hp j i hjl hil hgt (by rw [e1, e2, h4, h3])
          · rw [← h5]
      · rw [hm2 _ hkk, hm]
        constructor
        · rintro ⟨x, hx, h4, h5⟩
          obtain ⟨i, hi⟩ := List.mem_iff_getElem?.1 hx
          refine ⟨x, (hmem x).2 (.inl ⟨i, x, by simpa using hi, fun e' => ?_, rfl⟩), h4, h5⟩
          subst e'
          rw [h2] at hi
          cases hi
          exact hkk (h4.symm.trans h3)
        · rintro ⟨x, hx, h4, h5⟩
          rcases (hmem x).1 hx with ⟨i, y, hi, hij, rfl⟩ | rfl
          · exact ⟨x, by simpa using Array.mem_of_getElem? hi, h4, h5⟩
          · exact absurd h4.symm hkk
end MapAt

end Go.Proofs.YtdaookipaknoeaaGreat
