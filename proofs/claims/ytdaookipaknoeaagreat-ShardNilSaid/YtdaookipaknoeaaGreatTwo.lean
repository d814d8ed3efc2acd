/-
  law 29: two.
-/
import Derived.Test.YtdaookipaknoeaaGreatNils
namespace Go.Proofs.YtdaookipaknoeaaGreat
open Go Go.MapKept
set_option linter.unusedVariables false

def c3 : List (Int × Int) := [(8, 300), (32, 600), (256, 200)]

theorem c3_ok : ClsOk c3 := by
  refine ⟨by decide, by decide, by decide, ?_⟩
  intro i hi
  have : i < 2 := by simp [c3] at hi; omega
  match i, this with
  | 0, _ => simp [c3]
  | 1, _ => simp [c3]

theorem law_classes {w : World} : Calls Tryz.prog 10 #[] w fun e w1 => Ext w w1 ∧ ∃ b, e = .returned (.slice (some ⟨b, 0, none⟩) 3 3) ∧ ClsAt w1 (some ⟨b, 0, none⟩) 3 c3 :=
  f10_vc ⟨rfl, rfl, rfl, fun b w2 hb hbb f2 => ⟨f2, b, rfl, ClsAt.of_blk (ls := c3) hbb rfl⟩⟩

theorem new_shard {w : World} {c : Cfg} : Calls Tryz.prog 44 #[.agg c.cells] w fun e w1 => Ext w w1 ∧ ∃ b, e = .returned (.pointer (some ⟨b, 0, none⟩)) := by
  refine f44_vc fun b1 w2 hb1 hb f2 => ⟨_, hb.loads0 rfl, rfl, fun b4 w5 hb4 hbb f5 => ⟨f2.trans f5, b4, rfl⟩⟩

/-- what two gives -/
structure TwoAt (w w1 : World) (ab sb qb pb tm r : Nat) (c : Cfg) : Prop where
  ok : c.Ok
  here : Blk w1 sb 130 (shCells ab pb c qb tm)
  arena : ArenaAt w1 (fun i => w.heap.size ≤ i) ab (newArn c3)
  pool : PoolAt w1 (fun i => w.heap.size ≤ i) pb ab r (newPol 900)
  queue : QueueAt w1 (fun i => w.heap.size ≤ i) qb ab pb c.queue.toNat []
  tiers : MapAt w1 tm (.int .i64) (fun _ => none) 0
  apart : tm ≠ r ∧ w.heap.size ≤ sb ∧ w.heap.size ≤ tm ∧ w.heap.size ≤ r

set_option maxHeartbeats 1000000 in
theorem law_two {w : World} {db : Nat} {A : Option Addr} {zs : List Int} (h : Deck w db A zs) (hA : ∀ x, A = some x → x.block < w.heap.size) :
    Calls Tryz.prog 8 #[.pointer (some ⟨db, 0, none⟩)] w fun e w1 => Fr (fun i => i = db) w w1 ∧ ∃ c ab sb ob qb pb tm r, e = .returned (.tuple #[.agg (Cfg.cells c), .pointer (some ⟨ab, 0, none⟩), .pointer (some ⟨sb, 0, none⟩), .pointer (some ⟨ob, 0, none⟩), .bool true]) ∧ TwoAt w w1 ab sb qb pb tm r c := by
  have hdb := h.lt
  refine f8_vc fun b1 w2 hb1 hbb1 f2 => ?_
  have hs2 := f2.size
  refine (made_config (h.frame f2 id fun _ _ => id) (fun x hx => by have := hA x hx; omega)).mono ?_
  rintro e w4 ⟨hd4, f4, c, rfl, hc⟩
  have hs4 := f4.size
  have hb1l := lt_of_blk hbb1
  have hbb4 := f4.b hbb1 (by omega)
  refine ⟨_, rfl, fun b6 w7 hb6 hbb6 f7 => ⟨rfl, StoreQ.of hbb6 (by simp [Cfg.cells]) (by simp [Cfg.cells, one]) fun w8 hb8 f8 s8 => ?_⟩⟩
  rw [setL_all (by rfl)] at hb8
  have hs7 := f7.size
  have e8 : Ext w4 w8 := f7.then_ f8 fun i hi e => by omega
  refine law_classes.mono ?_
  rintro e w10 ⟨f10, kb, rfl, hk⟩
  have hs10 := f10.size
  refine ⟨_, _, _, rfl, (arena_new hk c3_ok).mono ?_⟩
  rintro e w13 ⟨f13, ab, rfl, han, ha⟩
  have hs13 := f13.size
  refine ⟨_, _, rfl, (pool_new (by omega) (by omega)).mono ?_⟩
  rintro e w17 ⟨f17, pb, r, rfl, hpn, hrn, hp⟩
  have hs17 := f17.size
  have e17 : Ext w8 w17 := (f10.trans f13).trans f17
  have hb17 := e17.b hb8 id
  refine ⟨_, _, rfl, _, hb17.loads0 rfl, (shard_new hc.ok.queue).mono ?_⟩
  rintro e w22 ⟨f22, sb, qb, tm, rfl, hsb, hsbn, htm, hmt, hq⟩
  have hs22 := f22.size
  have hb22 := f22.b hb17 id
  refine ⟨_, _, rfl, _, Blk.loads0 (w := w22.drew) hb22 rfl, _, Blk.loads0 (w := w22.drew) hb22 rfl, (new_shard (w := w22.drew)).mono ?_⟩
  rintro e w28 ⟨f28, ob, rfl⟩
  have f28 : Ext w22 w28 := f28.dl
  have hs28 := f28.size
  have hb28 := f28.b hb22 id
  refine ⟨_, rfl, hb28.loads0 rfl, CondQ.yes rfl (CondQ.yes rfl (CondQ.yes rfl (CondQ.yes rfl ⟨rfl, ?_⟩)))⟩
  have e28 : Ext w4 w28 := (e8.trans e17).trans (f22.trans f28)
  have hbb28 := e28.b hbb4 id
  refine StoreQ.of hbb28 (by simp [Cfg.cells]) (by simp [Cfg.cells, one]) fun w30 hb30 f30 s30 => ?_
  rw [setL_all (by rfl)] at hb30
  have hs8 := e8.size
  -- what was made lies above w and is not b1
  have hne : ∀ {k T : Nat} {cs : Array Value}, Blk w28 k T cs → T ≠ 30 → k ≠ b1 := fun hb hT => ArenaIn.ne_of_types hb hbb28 hT
  have hrl : r < w17.heap.size := (hp (fun _ => True) fun _ _ _ => trivial).map.lt
  have ha30 : ArenaAt w30 (fun i => w.heap.size ≤ i) ab (newArn c3) := by
    refine (((ha (fun i => w.heap.size ≤ i) fun i hi _ => by omega).ext f17).ext (f22.trans f28)).keep f30 (fun i _ e => ?_) fun _ _ h => h
    subst e
    exact Tg.not hbb28 (by decide)
  have hp30 : PoolAt w30 (fun i => w.heap.size ≤ i) pb ab r (newPol 900) := by
    refine ((hp (fun i => w.heap.size ≤ i) fun i hi _ => by omega).ext (f22.trans f28)).keep f30 (fun i _ e => ?_) (fun e => by omega) fun _ _ h => h
    subst e
    exact Tg.not hbb28 (by decide)
  have hq30 : QueueAt w30 (fun i => w.heap.size ≤ i) qb ab pb c.queue.toNat [] := by
    refine ((hq (fun i => w.heap.size ≤ i) fun i hi _ => by omega).ext f28).keep f30 (fun i _ e => ?_) fun _ _ h => h
    subst e
    exact Tg.not hbb28 (by decide)
  have hsb28 := f28.b hsb id
  have hsb30 := f30.b hsb28 (hne hsb28 (by decide))
  have hw30 : Fr (fun i => i = db) w w30 := (((f2.ext _).trans f4).then_ e28 fun _ _ h => h.elim).then_ f30 fun i hi e => by omega
  exact ⟨_, hb30.loads0 rfl, hw30, c, ab, sb, ob, qb, pb, tm, r, rfl, hc.ok, hsb30, ha30, hp30, hq30, (hmt.frame f28 id).frame f30 (by omega), by omega, by omega, by omega, by omega⟩

end Go.Proofs.YtdaookipaknoeaaGreat
