/-
  law 29: awake and ShardNil.
-/
import Derived.Test.YtdaookipaknoeaaGreatTwo
namespace Go.Proofs.YtdaookipaknoeaaGreat
open Go Go.MapKept
set_option linter.unusedVariables false

def keyA : ByteArray := ⟨#[97]⟩

/-- the arena after the slot of an event, and after the slot of its key -/
theorem alloc24 : ∃ s1, AllocR (newArn c3) 24 1 0 1 s1 ∧ ∃ s2 p2, InternR s1 (newPol 900) keyA 1 s2 p2 ∧ Named s2 p2 1 keyA := by
  refine ⟨_, ⟨⟨32, 600, 0, []⟩, ⟨32, 600, 0, [⟨0, false, 0, []⟩]⟩, _, ⟨0, false, 0, []⟩, by decide, by decide, by decide, rfl, .inr ⟨rfl, by decide, rfl, rfl, rfl, rfl⟩, by decide, by decide, by decide, rfl, rfl⟩, ?_⟩
  refine ⟨_, _, ⟨by decide, by decide, ⟨8, 300, 0, []⟩, ⟨8, 300, 0, [⟨0, false, 0, []⟩]⟩, _, ⟨0, false, 0, []⟩, 0, 0, fun x => if x = keyA then some 1 else none, rfl, by decide, by decide, by decide, by decide, rfl, .inr ⟨rfl, by decide, rfl, rfl, rfl, rfl⟩, by decide, by decide, by decide, ?_, rfl, by simp, ?_, rfl⟩, ?_⟩
  · exact ⟨by decide, by decide, fun j h h1 h2 => by omega, fun h => absurd h (by decide)⟩
  · intro x hx
    simp [hx, newPol]
  · refine ⟨by decide, ⟨0, 0, 1, 1⟩, ⟨8, 300, 1, [⟨1, true, 0, bytesOf keyA⟩]⟩, ⟨1, true, 0, bytesOf keyA⟩, rfl, by decide, ⟨rfl, rfl, rfl⟩, rfl, rfl, by decide⟩

theorem shard_ledger {w : World} {sb ab pb qb tm : Nat} {c : Cfg} {window : Int} (h : Blk w sb 130 (shCells ab pb c qb tm)) (hm : MapAt w tm (.int .i64) (fun _ => none) 0) :
    Calls Tryz.prog 30 #[.pointer (some ⟨sb, 0, none⟩), .int .i64 window] w fun e w1 => w1 = w ∧ e = .returned (.tuple #[.int .u64 0, .int .u64 0, .int .u64 0]) := by
  have hz : (zeroValue 43).run Tryz.prog w = .ok (.pointer none) w := by
    have : (Tryz.prog.info? 43).map (·.zero) = some (some (.pointer none)) := by kernel_rfl
    obtain ⟨inf, h1, h2⟩ := Option.map_eq_some_iff.1 this
    simp [zeroValue, typeInfo, program, Sem.run, h1, h2]
  have hget := hm.get (P := Tryz.prog) (t := 128) (kt := 3) (et := 43) (by kernel_rfl) (by kernel_rfl) (k := .int .i64 window) rfl hz false
  refine f30_vc (f65_vc ⟨some tm, h.cell rfl, none, hget, none, rfl, tier_ledger_nil.mono ?_⟩)
  rintro e w2 ⟨rfl, rfl⟩
  exact ⟨_, _, _, rfl, rfl, rfl⟩

theorem awake_calls {w : World} : Calls Tryz.prog 21 #[] w fun e w1 => Ext w w1 ∧ e = .returned (.bool true) := by
  refine f21_vc (f7_vc fun db w2 hdb hdbb f2 => ⟨_, rfl, ?_⟩)
  have hs2 := f2.size
  have hd : Deck w2 db none [] := ⟨⟨none, 0, 0, hdbb, fun h => absurd rfl h, by omega, by simp⟩, Row.nil _ _, fun x hx => (by cases hx), by simp, by simp⟩
  refine (law_two hd (fun x hx => by cases hx)).mono ?_
  rintro e w5 ⟨f5, c, ab, sb, ob, qb, pb, tm, r, rfl, ht⟩
  have hs5 := f5.size
  refine ⟨_, _, _, _, _, rfl, fun b11 w12 hb11 hbb11 f12 => ⟨rfl, StoreQ.of hbb11 (by simp [Cfg.cells]) (by simp [Cfg.cells, one]) fun w13 hb13 f13 s13 => CondQ.no rfl ?_⟩⟩
  have e13 : Ext w5 w13 := f12.then_ f13 fun i hi e => by omega
  have hsb13 := e13.b ht.here id
  obtain ⟨s1, hA, s2, p2, hI, hN⟩ := alloc24
  have hqr := ht.ok.queue
  -- Push
  refine f15_vc fun b1 w14 hb1 hbb1 f14 => ⟨_, (f14.b hsb13 id).dcell rfl, _, Blk.loads0 (w := w14.drew) hbb1 rfl, ?_⟩
  have e14 : Ext w5 w14 := e13.trans f14
  have hpush := queue_push (w := w14.drew) (window := 2) (time := 0) (weight := 1) ((ht.queue.ext e14).ext (Fr.drew _ _)) ((ht.arena.ext e14).ext (Fr.drew _ _)) ((ht.pool.ext e14).ext (Fr.drew _ _)) (by simp; omega) hA hI
  refine hpush.mono ?_
  rintro e w15 ⟨rfl, ha15, hp15, hq15, f15⟩
  have f15 : Fr (Mod w14 (fun i => w2.heap.size ≤ i) apqTs [r]) w14 w15 := f15.dl
  have hap := ht.apart
  have hsb14 := e14.b ht.here id
  have hm14 := ht.tiers.frame e14 id
  have hsb15 := f15.mod_keep hsb14 (by decide) (by simp; exact fun e => ((ht.pool.ext e14).map.ne hsb14) e.symm)
  have hm15 : MapAt w15 tm (.int .i64) (fun _ => none) 0 := hm14.frame f15 fun ⟨_, h⟩ => h.elim (hm14.noTg _) (by simpa using hap.1)
  refine ⟨0, rfl, 0, rfl, ?_⟩
  -- Drain
  refine f18_vc (fun _ n e x y w' => w' = w15 ∧ n = 0 ∧ e = 0 ∧ x = 0 ∧ y = 0) (fun _ _ _ _ _ _ => 0) (fun _ n e w' => w' = w15 ∧ n = 0 ∧ e = 0) ?_ ?_ ⟨_, hsb15.cell rfl, (queue_until hq15).mono ?_⟩
  · rintro n e x y w' m ⟨rfl, rfl, rfl, rfl, rfl⟩ _
    exact CondQ.decF (by omega) ⟨rfl, rfl, rfl⟩
  · rintro n e w' ⟨rfl, rfl, rfl⟩
    refine ⟨0, 0, rfl, ?_⟩
    -- Ledger
    refine (shard_ledger hsb15 hm15).mono ?_
    rintro e w22 ⟨rfl, rfl⟩
    refine ⟨0, 0, 0, rfl, CondQ.yes rfl (CondQ.yes rfl ?_)⟩
    -- Len
    refine f19_vc ⟨_, hsb15.cell rfl, (queue_len hq15).mono ?_⟩
    rintro e w27 ⟨rfl, rfl⟩
    refine ⟨_, rfl, 1, rfl, CondQ.yes rfl (CondQ.yes rfl (CondQ.yes rfl ?_))⟩
    -- Queued
    have hwt := queue_weight (w := w27) (window := 2) (key := keyA) (kf := fun _ => keyA) hq15 hp15 ha15 (fun i hi => by
      have : i = 0 := by simp at hi; omega
      subst this
      exact hN) (fun x hx => by simp at hx; subst hx; simp)
    refine f31_vc ⟨_, hsb15.cell rfl, hwt.mono ?_⟩
    rintro e w30 ⟨f30, rfl⟩
    refine ⟨1, rfl, 1, rfl, ?_, rfl⟩
    exact (((f2.then_ f5 fun i hi e => by omega).trans e14).then_ f15 fun i hi hm => by have := hm.1; omega).trans f30
  · rintro e w3 ⟨rfl, n, rfl, hn1, hn2, hn3⟩
    have hn0 : n = 0 := by
      rcases Nat.lt_or_ge 0 n with h | h
      · have h1 : n = 1 := by simp at hn1; omega
        have := hn3 0 (by simp) (by omega)
        simp at this
      · omega
    subst hn0
    exact ⟨_, rfl, rfl, rfl, rfl, rfl, rfl, rfl⟩

theorem eq_zero {xs : Array Value} (h : xs = #[.int .u64 0, .int .u64 0]) : EqQ Tryz.prog 75 xs #[.int .u64 0, .int .u64 0] true := by
  subst h
  intro w
  show (Op.equalIn 10000 75 (.agg #[.int .u64 0, .int .u64 0]) (.agg #[.int .u64 0, .int .u64 0])).run Tryz.prog w = Result.ok true w
  kernel_rfl

theorem law_nil {w : World} {A : Option Addr} {n c : Nat} {zs : List Int} {x : Int} (hrow : Row w A (zs.map (Value.int .i64))) (hn : zs.length = n) (hfit : ∀ z ∈ zs, -9223372036854775808 ≤ z ∧ z < 9223372036854775808) (hl : n ≤ 9223372036854775807) :
    Calls Tryz.prog 5 #[.slice A n c, .int .i64 x] w fun e w1 => Ext w w1 ∧ e = .returned (.bool true) := by
  subst hn
  refine f5_vc (f7_vc fun db w2 hdb hdbb f2 => ⟨_, rfl, ?_⟩)
  have hAl : ∀ y, A = some y → zs ≠ [] → y.block < w.heap.size := fun y hy hz => by
    obtain ⟨z, zs', rfl⟩ := List.exists_cons_of_ne_nil hz
    obtain ⟨a, ha, hc⟩ := hrow 0 _ rfl
    rw [hy] at ha
    cases ha
    have := cell_lt hc
    rwa [Addr.add_block] at this
  have hs2 := f2.size
  obtain ⟨B, hB, hBr⟩ : ∃ B, (zs ≠ [] → A = B) ∧ (∀ y, B = some y → y.block < w.heap.size) ∧ Row w B (zs.map (Value.int .i64)) := by
    cases zs with
    | nil => exact ⟨none, fun h => absurd rfl h, fun y hy => (by cases hy), Row.nil _ _⟩
    | cons z zs => exact ⟨A, fun _ => rfl, fun y hy => hAl y hy (by simp), hrow⟩
  have hd : Deck w2 db B zs := ⟨⟨A, c, 0, hdbb, hB, by omega, by omega⟩, hBr.2.frame f2 fun _ _ => id, fun y hy => by have := hBr.1 y hy; omega, hfit, hl⟩
  refine (made_config hd (fun y hy => by have := hBr.1 y hy; omega)).mono ?_
  rintro e w5 ⟨hd5, f5, cf, rfl, hcf⟩
  refine ⟨_, rfl, fun b7 w8 hb7 hbb7 f8 => ⟨rfl, StoreQ.of hbb7 (by simp [Cfg.cells]) (by simp [Cfg.cells, one]) fun w9 hb9 f9 s9 => ?_⟩⟩
  rw [setL_all (by rfl)] at hb9
  have hs5 := f5.size
  have e9 : Ext w5 w9 := f8.then_ f9 fun i hi e => by omega
  have x9 : Ext w w9 := (f2.then_ f5 fun i hi e => by omega).trans e9
  refine ⟨_, hb9.loads0 rfl, shard_new_nil.mono ?_⟩
  rintro e w12 ⟨f12, rfl⟩
  refine ⟨_, _, rfl, Nil.f16_vc ⟨_, _, rfl, Nil.f18_vc ⟨_, _, rfl, ?_⟩⟩⟩
  -- Bounds
  refine Nil.f29_vc fun q1 v2 hq1 hqb1 g2 => Nil.f65_vc ⟨_, rfl, tier_bounds_nil.mono ?_⟩
  rintro e v7 ⟨g7, rfl⟩
  have hqb7 := g7.b hqb1 id
  refine ⟨_, _, rfl, rfl, StoreQ.of hqb7 (by simp) (by simp [one]) fun v10 hv10 g10 t10 => ?_⟩
  have hv10 : Blk v10 q1 75 #[.int .u64 0, .int .u64 0] := hv10
  have y10 : Ext w12 v10 := (g2.trans g7).then_ g10 fun i hi e => by omega
  refine ⟨_, hv10.loads0 rfl, _, _, rfl, fun b27 w28 hb27 hbb27 f28 => ⟨rfl, StoreQ.of hbb27 (by simp) (by simp [one]) fun w29 hb29 f29 s29 => ?_⟩⟩
  have hb29 : Blk w29 b27 75 #[.int .u64 0, .int .u64 0] := hb29
  have e29 : Ext v10 w29 := f28.then_ f29 fun i hi e => by omega
  have x29 : Ext w w29 := ((x9.trans f12).trans y10).trans e29
  -- Ledger
  refine Nil.f30_vc (Nil.f65_vc ⟨_, rfl, tier_ledger_nil.mono ?_⟩)
  rintro e w31 ⟨rfl, rfl⟩
  refine ⟨0, 0, 0, rfl, 0, 0, 0, rfl, CondQ.yes rfl (CondQ.yes rfl ?_)⟩
  -- Push
  refine Nil.f15_vc fun p1 w36 hp1 hpb1 f36 => ⟨8, rfl, CondQ.yes rfl (CondQ.yes rfl (CondQ.yes rfl (CondQ.yes rfl (CondQ.yes rfl ?_))))⟩
  have hb36 := f36.b hb29 id
  -- Len, Windows, Queued
  refine Nil.f19_vc ⟨0, rfl, CondQ.yes rfl (Nil.f24_vc ⟨none, 0, 0, rfl, CondQ.yes rfl (Nil.f31_vc ⟨0, rfl, CondQ.yes rfl ⟨_, hb36.loads0 rfl, true, eq_zero rfl, CondQ.yes rfl (CondQ.yes rfl (CondQ.yes rfl (CondQ.yes rfl (CondQ.yes rfl ?_))))⟩⟩)⟩)⟩
  -- Summary
  refine Nil.f20_vc fun r1 v2 hr1 hrb1 g2 => Nil.f65_vc ⟨_, rfl, tier_summary_nil.mono ?_⟩
  rintro e v7 ⟨g7, rfl⟩
  have hrb7 := g7.b hrb1 id
  refine ⟨_, rfl, rfl, StoreQ.of hrb7 (by simp) (by simp [one]) fun v9 hv9 g9 t9 => ?_⟩
  have hv9 : Blk v9 r1 60 #[.int .u64 0, .slice none 0 0, .int .u64 0, .slice none 0 0] := hv9
  have y9 : Ext w36 v9 := (g2.trans g7).then_ g9 fun i hi e => by omega
  refine ⟨_, hv9.loads0 rfl, _, rfl, 0, rfl, CondQ.yes rfl ?_⟩
  -- Close
  refine Nil.f25_vc (Nil.f65_vc ⟨none, rfl, CondQ.yes rfl ⟨false, rfl, CondQ.yes rfl (awake_calls.mono ?_)⟩⟩)
  rintro e w57 ⟨f57, rfl⟩
  exact ⟨true, rfl, ((x29.trans f36).trans y9).trans f57, rfl⟩

end Go.Proofs.YtdaookipaknoeaaGreat
