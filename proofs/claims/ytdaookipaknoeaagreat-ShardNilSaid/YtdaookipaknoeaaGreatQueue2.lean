/-
  The queue: Push, Until.
-/
import Derived.Test.YtdaookipaknoeaaGreatQueue
namespace Go.Proofs.YtdaookipaknoeaaGreat
open Go Go.MapKept
set_option linter.unusedVariables false

def apqTs : List Nat := apTs ++ quTs

theorem ArenaAt.mem {w w1 : World} {F : Nat → Prop} {ab : Nat} {s : Arn} {Ts rs : List Nat} (h : ArenaAt w F ab s) (f : Fr (Mod w F Ts rs) w w1) (hT : ∀ T ∈ 5 :: arTs, T ∉ Ts) (hr : ∀ i ∈ rs, ¬ Tg w (5 :: arTs) i) : ArenaAt w1 (Grow F w w1) ab s :=
  h.keep f (fun i _ ⟨_, hs⟩ ht => by
    obtain ⟨T, cs, hb, hT'⟩ := ht
    exact hs.elim (Tg.not hb (hT T hT')) fun hm => hr i hm ⟨T, cs, hb, hT'⟩) fun i _ hF => .inl hF

theorem PoolAt.mem {w w1 : World} {F : Nat → Prop} {pb ab r : Nat} {p : Pol} {Ts : List Nat} (h : PoolAt w F pb ab r p) (f : Fr (Mod w F Ts []) w w1) (hT : ∀ T ∈ poTs, T ∉ Ts) : PoolAt w1 (Grow F w w1) pb ab r p :=
  h.keep f (fun i _ ⟨_, hs⟩ ht => by
    obtain ⟨T, cs, hb, hT'⟩ := ht
    exact hs.elim (Tg.not hb (hT T hT')) (by simp)) (fun ⟨_, hs⟩ => hs.elim (h.map.noTg _) (by simp)) fun i _ hF => .inl hF

theorem queue_push {w : World} {F : Nat → Prop} {qb ab pb cap r : Nat} {l : List Wt} {s s1 s2 : Arn} {p p2 : Pol} {key : ByteArray} {window time weight age : Int} {c i id : Nat}
    (hq : QueueAt w F qb ab pb cap l) (ha : ArenaAt w F ab s) (hp : PoolAt w F pb ab r p) (hroom : l.length < cap) (hA : AllocR s 24 c i age s1) (hI : InternR s1 p key id s2 p2) :
    Calls Tryz.prog 53 #[.pointer (some ⟨qb, 0, none⟩), .int .i64 window, .agg #[.string key, .int .i64 time, .int .u64 weight]] w fun e w1 => e = .returned (.int .i64 0) ∧
      ArenaAt w1 (Grow F w w1) ab s2 ∧ PoolAt w1 (Grow F w w1) pb ab r p2 ∧ QueueAt w1 (Grow F w w1) qb ab pb cap (l ++ [⟨window, time, weight, c, i, age, id⟩]) ∧ Fr (Mod w F apqTs [r]) w w1 := by
  have hk1 := hI.1
  have hk2 := hI.2.1
  have hne : (key.toList == (⟨#[]⟩ : ByteArray).toList) = false := by
    have h0 : key.data.toList ≠ [] := by
      intro h
      have : key.size = 0 := by show key.data.size = 0; rw [← Array.length_toList, h]; rfl
      omega
    rw [ByteArray.toList_eq, ByteArray.toList_eq]
    simpa using h0
  refine f53_vc fun b1 w2 hb1 hbb f2 => ?_
  have hq2 := hq.ext f2
  have hcap := hq.len
  obtain ⟨LA, lc, xs, h1, h2, h3, h4⟩ := hq2.here
  refine ⟨_, h1.dcell rfl, _, _, _, h1.dcell rfl, CondQ.beq (fun h => by omega) (fun _ => ⟨_, hbb.dcell rfl, CondQ.no hne ⟨_, hbb.dcell rfl, CondQ.decF (by omega) ⟨_, h1.dcell rfl, ?_⟩⟩⟩)⟩
  refine (alloc_r (w := w2.drew) ((ha.ext f2).ext (Fr.drew _ _)) hA).mono ?_
  rintro e w9 ⟨rfl, ha9, f9⟩
  have f9 : Fr (Mod w2 F arTs []) w2 w9 := f9.dl
  have ha9 : ArenaAt w9 (Grow F w2 w9) ab s1 := ha9
  have hp9 := (hp.ext f2).mem f9 (by decide)
  have hq9 := hq2.mem f9 (by decide) (by simp)
  have hb9 := f9.mod_keep hbb (by decide) (by simp)
  have hs2 := f2.size
  have hs9 := f9.size
  refine ⟨_, _, rfl, fun b12 w13 hb12 hbb12 f13 => ⟨rfl, StoreQ.of hbb12 (by simp [handle]) (by simp [handle, one]) fun w14 hb14 f14 s14 => CondQ.no rfl ?_⟩⟩
  have hb14 : Blk w14 b12 123 (handle c i age) := hb14
  have hs13 := f13.size
  have e14 : Ext w9 w14 := f13.then_ f14 fun j hj e => by omega
  have hq14 := hq9.ext e14
  have hb1' := e14.b hb9 (fun h => h)
  obtain ⟨LA', lc', xs', q1, q2, q3, q4⟩ := hq14.here
  refine ⟨_, q1.dcell rfl, _, hb1'.dcell rfl, ?_⟩
  refine (intern_r (w := w14.drew) ((hp9.ext e14).ext (Fr.drew _ _)) ((ha9.ext e14).ext (Fr.drew _ _)) hI).mono ?_
  rintro e w18 ⟨rfl, ha18, hp18, f18⟩
  have f18 : Fr (Mod w14 (Grow F w2 w9) apTs [r]) w14 w18 := f18.dl
  have hs14 := e14.size
  have hs18 := f18.size
  have hr14 : ∀ Ts, ¬ Tg w14 Ts r := fun Ts => (hp9.ext e14).map.noTg Ts
  have hq18 := hq14.mem f18 (by decide) (by simpa using hr14 _)
  have hb18 := f18.mod_keep hb1' (by decide) (by simp; exact fun e => hr14 [49] ⟨_, _, e ▸ hb1', by simp⟩)
  have hbh18 := f18.mod_keep hb14 (by decide) (by simp; exact fun e => hr14 [123] ⟨_, _, e ▸ hb14, by simp⟩)
  obtain ⟨LB, ld, ys, g1, g2, g3, g4⟩ := hq18.here
  obtain ⟨a, hLA⟩ := g2.ex (by omega)
  subst hLA
  obtain ⟨_, cur, hcb⟩ := g2.blk
  have hFa := g4 a rfl
  have hyl := g2.length
  refine ⟨_, _, rfl, CondQ.no rfl ⟨_, _, _, g1.dcell rfl, _, g1.dcell rfl, _, hb18.dcell rfl, _, hb18.dcell rfl, _, Blk.loads0 (w := w18.drew) hbh18 rfl, rfl, by omega, rfl, ?_⟩⟩
  rw [Int.toNat_natCast]
  show StoreQ w18.drew (a.add (l.length * 7)) (Wt.cells ⟨window, time, weight, c, i, age, id⟩) _
  refine Own.storeAt (w := w18.drew) g2 (by simp [Wt.cells]; omega) (by simp [Wt.cells]) (by simp [Wt.cells, one]) fun w32 ho32 f32 s32 => ?_
  have f32 : Fr (fun j => j = a.block) w18 w32 := f32.dl
  have s32 : w32.heap.size = w18.heap.size := s32
  have nqa : qb ≠ a.block := ArenaIn.ne_of_types g1 hcb (by decide)
  have g32 := f32.b g1 nqa
  refine ⟨_, g32.cell rfl, StoreQ.of1 g32 (by simp) rfl fun w34 hb34 f34 s34 => ?_⟩
  rw [wrap_i64_id (by omega) (by omega)] at hb34
  have hgrow : ∀ j, Grow (Grow F w2 w9) w14 w18 j → Grow F w w34 j := fun j hj => by
    rcases hj with (hj | hj) | hj
    · exact .inl hj
    · exact .inr ⟨by omega, by omega⟩
    · exact .inr ⟨by omega, by omega⟩
  have hsub : ∀ {Ts : List Nat} {k : Nat}, k = a.block ∨ k = qb → (∀ T ∈ Ts, T ∉ quTs) → ¬ Tg w18 Ts k := fun {Ts k} hk hT ht => by
    obtain ⟨T, cs, hb, hT'⟩ := ht
    rcases hk with rfl | rfl
    · exact ArenaIn.ne_of_types hb hcb (fun e => hT T hT' (e ▸ (by decide : 196 ∈ quTs))) rfl
    · exact ArenaIn.ne_of_types hb g1 (fun e => hT T hT' (e ▸ (by decide : 193 ∈ quTs))) rfl
  have f1834 : Fr (fun j => j = a.block ∨ j = qb) w18 w34 := (f32.mono fun _ _ h => .inl h).trans (f34.mono fun _ _ h => .inr h)
  have hr18 : r ≠ a.block ∧ r ≠ qb := ⟨hp18.map.ne hcb, hp18.map.ne g1⟩
  refine ⟨rfl, ha18.keep f1834 (fun j _ hj => hsub hj (by decide)) fun j _ hj => hgrow j hj, hp18.keep f1834 (fun j _ hj => hsub hj (by decide)) (fun h => h.elim hr18.1 hr18.2) fun j _ hj => hgrow j hj, ?_, ?_⟩
  · have hll : (l ++ [(⟨window, time, weight, c, i, age, id⟩ : Wt)]).length = l.length + 1 := by simp
    have hbq : Blk w34 qb 193 #[.pointer (some ⟨ab, 0, none⟩), .pointer (some ⟨pb, 0, none⟩), .slice (some a) cap ld, .int .i64 ((l ++ [(⟨window, time, weight, c, i, age, id⟩ : Wt)]).length : Nat)] := by
      rw [hll, Int.natCast_add]
      exact hb34
    refine ⟨⟨some a, ld, _, hbq, ho32.frame f34 (fun x hx e => by cases hx; exact nqa e.symm), ?_, fun x hx => hgrow _ (g4 x hx)⟩, hgrow _ hq18.foot, by rw [hll]; omega⟩
    rw [hll]
    have e1 : wtCells (l ++ [(⟨window, time, weight, c, i, age, id⟩ : Wt)]) = wtCells l ++ Wt.cells ⟨window, time, weight, c, i, age, id⟩ := by
      unfold wtCells
      rw [List.flatMap_append]
      simp
    rw [e1]
    unfold patch
    rw [g3, List.append_assoc, List.take_append, List.take_of_length_le (by rw [wtCells_length]; omega), wtCells_length, List.take_append, List.take_of_length_le (by simp [Wt.cells]; omega)]
    have e2 : (l.length + 1) * 7 - l.length * 7 - (Wt.cells ⟨window, time, weight, c, i, age, id⟩).length = 0 := by simp [Wt.cells]; omega
    rw [e2]
    simp
  · have r9 : Fr (Mod w F apqTs [r]) w w9 := (Fr.mod_ext f2).mod_then (f9.mod_sub (fun _ _ h => .inl h) (by decide) (by simp))
    have r14 : Fr (Mod w F apqTs [r]) w w14 := r9.then_ e14 fun _ _ h => h.elim
    have r18 : Fr (Mod w F apqTs [r]) w w18 := r14.mod_then (f18.mod_sub (fun j hj h => by
      rcases h with h | h
      · exact .inl h
      · exact .inr ⟨by omega, by omega⟩) (by decide) (by simp))
    refine r18.then_ f1834 fun j hj e => ?_
    rcases e with rfl | rfl
    · rcases hFa with (h | h) | h
      · exact r18.mod_back hj h ⟨_, cur, hcb, by decide⟩
      · omega
      · omega
    · exact r18.mod_back hj hq.foot ⟨_, _, g1, by decide⟩

end Go.Proofs.YtdaookipaknoeaaGreat
