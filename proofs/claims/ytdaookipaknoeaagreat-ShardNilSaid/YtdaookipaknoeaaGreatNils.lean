/-
  Shards and tiers that are nil.
-/
import Derived.Test.YtdaookipaknoeaaGreatQueue3
import Derived.Test.YtdaookipaknoeaaGreatSegNil
import Derived.Test.YtdaookipaknoeaaGreatSegNil2
import Derived.Test.YtdaookipaknoeaaGreatSegShard
import Derived.Test.YtdaookipaknoeaaGreatCfg3
namespace Go.Proofs.YtdaookipaknoeaaGreat
open Go Go.MapKept
set_option linter.unusedVariables false

theorem tier_open_nil {w : World} : Calls Tryz.prog 55 #[.pointer none] w fun e w1 => w1 = w ∧ e = .returned (.bool false) := Nil.f55_vc ⟨rfl, rfl⟩

theorem tier_ledger_nil {w : World} : Calls Tryz.prog 78 #[.pointer none] w fun e w1 => w1 = w ∧ e = .returned (.tuple #[.int .u64 0, .int .u64 0, .int .u64 0]) := by
  refine Nil.f78_vc (fun _ _ _ _ _ _ _ _ => False) (fun _ _ _ _ _ _ _ _ => 0) (fun _ _ _ => False) (fun _ _ _ _ _ _ _ _ h => h.elim) (fun _ _ h => h.elim) (tier_open_nil.mono ?_)
  rintro e w2 ⟨rfl, rfl⟩
  exact ⟨_, rfl, CondQ.yes rfl ⟨rfl, rfl⟩⟩

theorem tier_summary_nil {w : World} : Calls Tryz.prog 23 #[.pointer none] w fun e w1 => Ext w w1 ∧ e = .returned (.agg #[.int .u64 0, .slice none 0 0, .int .u64 0, .slice none 0 0]) := by
  refine Nil.f23_vc fun b1 w2 hb1 hb f2 => tier_open_nil.mono ?_
  rintro e w4 ⟨rfl, rfl⟩
  refine ⟨_, rfl, CondQ.yes rfl ⟨rfl, StoreQ.of hb (by simp) (by simp [one]) fun w6 hb6 f6 s6 => ?_⟩⟩
  have hb6 : Blk w6 b1 60 #[.int .u64 0, .slice none 0 0, .int .u64 0, .slice none 0 0] := hb6
  exact ⟨_, hb6.loads0 rfl, f2.then_ f6 fun i hi e => by omega, rfl⟩

theorem tier_bounds_nil {w : World} {key : ByteArray} : Calls Tryz.prog 77 #[.pointer none, .string key] w fun e w1 => Ext w w1 ∧ e = .returned (.tuple #[.agg #[.int .u64 0, .int .u64 0], .bool false]) := by
  refine Nil.f77_vc fun b1 w2 hb1 hb f2 => tier_open_nil.mono ?_
  rintro e w4 ⟨rfl, rfl⟩
  refine ⟨_, rfl, CondQ.yes rfl ⟨rfl, StoreQ.of hb (by simp) (by simp [one]) fun w6 hb6 f6 s6 => ?_⟩⟩
  have hb6 : Blk w6 b1 75 #[.int .u64 0, .int .u64 0] := hb6
  exact ⟨_, hb6.loads0 rfl, f2.then_ f6 fun i hi e => by omega, rfl⟩

theorem shard_new_nil {w : World} {c : Cfg} : Calls Tryz.prog 28 #[.pointer none, .pointer none, .agg c.cells] w fun e w1 => Ext w w1 ∧ e = .returned (.tuple #[.pointer none, .int .i64 8]) := by
  refine Nil.f28_vc fun b1 w2 hb1 hb f2 => ⟨_, hb.cell rfl, Nil.f76_vc ⟨_, _, rfl, CondQ.yes rfl ⟨f2, rfl⟩⟩⟩

/-- a shard without tiers: its cells -/
def shCells (ab pb : Nat) (c : Cfg) (qb tm : Nat) : Array Value :=
  #[.pointer (some ⟨ab, 0, none⟩), .pointer (some ⟨pb, 0, none⟩), .int .i64 c.length, .int .i64 c.lateness, .int .i64 c.windows, .int .i64 c.shards, .int .i64 c.spread, .int .i64 c.queue, .int .i64 c.mode, .int .i64 c.slots, .int .i64 c.exact, .int .u64 c.promote,
    .int .i64 c.depth, .int .i64 c.width, .int .i64 c.top, .int .i64 c.key, .slice c.ca c.cn c.cc, .slice c.ta c.tn c.tc, .int .u64 c.seed, .pointer (some ⟨qb, 0, none⟩), .map (some tm)]

theorem shard_new {w : World} {ab pb : Nat} {c : Cfg} (hq : 1 ≤ c.queue ∧ c.queue ≤ 64) :
    Calls Tryz.prog 28 #[.pointer (some ⟨ab, 0, none⟩), .pointer (some ⟨pb, 0, none⟩), .agg c.cells] w fun e w1 => Ext w w1 ∧ ∃ sb qb tm, e = .returned (.tuple #[.pointer (some ⟨sb, 0, none⟩), .int .i64 0]) ∧
      Blk w1 sb 130 (shCells ab pb c qb tm) ∧ w.heap.size ≤ sb ∧ w.heap.size ≤ tm ∧ MapAt w1 tm (.int .i64) (fun _ => none) 0 ∧ ∀ F : Nat → Prop, (∀ i, w.heap.size ≤ i → i < w1.heap.size → F i) → QueueAt w1 F qb ab pb c.queue.toNat [] := by
  refine f28_vc fun b1 w2 hb1 hb f2 => ⟨_, hb.cell rfl, (queue_new hq.1 hq.2).mono ?_⟩
  rintro e w5 ⟨f5, qb, rfl, hqn, hqq⟩
  have hb5 := f5.b hb id
  obtain ⟨w9, hr, hm, f9⟩ := MapAt.new (P := Tryz.prog) (d := .int .i64) w5 128
  refine ⟨_, _, rfl, CondQ.no rfl ⟨_, hb5.loads0 rfl, _, w9, hr, rfl, fun b11 w12 hb11 hbb f12 => ?_⟩⟩
  have hbb : Blk w12 b11 130 (shCells ab pb c qb w5.heap.size) := cast_of (by kernel_rfl) hbb
  have hs2 := f2.size
  have hs5 := f5.size
  have hs9' := f9.size
  have hs9 := (f9.trans f12).size
  refine ⟨((f2.trans f5).trans f9).trans f12, b11, qb, _, rfl, hbb, by omega, by omega, hm.frame f12 id, fun F hF => ?_⟩
  exact ((hqq F fun i hi hi2 => hF i (by omega) (by omega)).ext f9).ext f12

end Go.Proofs.YtdaookipaknoeaaGreat
