/-
  Configurations and size classes: ref25.Clock, ref19.Routes, ref08.Classes, ref08.Fit, ref25.Config, Tracked, Demand, and Deck.Config.
-/
import Derived.Test.YtdaookipaknoeaaGreatMade
import Derived.Test.YtdaookipaknoeaaGreatSegCfg
namespace Go.Proofs.YtdaookipaknoeaaGreat
open Go
set_option linter.unusedVariables false

/-- a configuration as it lies in its cells -/
structure Cfg where
  (length lateness windows shards spread queue mode slots exact promote depth width top key : Int)
  (ca : Option Addr) (cn cc : Nat) (ta : Option Addr) (tn tc : Nat) (seed : Int)

def Cfg.cells (c : Cfg) : Array Value :=
  #[.int .i64 c.length, .int .i64 c.lateness, .int .i64 c.windows, .int .i64 c.shards, .int .i64 c.spread, .int .i64 c.queue, .int .i64 c.mode, .int .i64 c.slots, .int .i64 c.exact, .int .u64 c.promote,
    .int .i64 c.depth, .int .i64 c.width, .int .i64 c.top, .int .i64 c.key, .slice c.ca c.cn c.cc, .slice c.ta c.tn c.tc, .int .u64 c.seed]

/-- all numbers are in their ranges -/
structure Cfg.Ok (c : Cfg) : Prop where
  length : 1 ≤ c.length ∧ c.length ≤ 1048576
  lateness : 0 ≤ c.lateness ∧ c.lateness ≤ 1048576
  windows : 1 ≤ c.windows ∧ c.windows ≤ 8
  shards : 1 ≤ c.shards ∧ c.shards ≤ 8
  spread : 1 ≤ c.spread ∧ c.spread ≤ c.shards
  queue : 1 ≤ c.queue ∧ c.queue ≤ 64
  mode : c.mode = 1 ∨ c.mode = 2
  slots : 1 ≤ c.slots ∧ c.slots ≤ 64
  exact : 0 ≤ c.exact ∧ c.exact ≤ 32
  promote : 0 ≤ c.promote ∧ c.promote < 18446744073709551616
  depth : 1 ≤ c.depth ∧ c.depth ≤ 4
  width : 1 ≤ c.width ∧ c.width ≤ 256
  top : 1 ≤ c.top ∧ c.top ≤ 64
  key : 1 ≤ c.key ∧ c.key ≤ 255
  table : c.tn = 16
  seed : 0 ≤ c.seed ∧ c.seed < 18446744073709551616

/-- the cells of size classes -/
def clsCells (ls : List (Int × Int)) : List Value := ls.flatMap fun p => [.int .i64 p.1, .int .i64 p.2]

theorem clsCells_get (ls : List (Int × Int)) (i : Nat) (h : i < ls.length) : (clsCells ls)[i * 2]? = some (.int .i64 ls[i].1) ∧ (clsCells ls)[i * 2 + 1]? = some (.int .i64 ls[i].2) := by
  induction ls generalizing i with
  | nil => simp at h
  | cons p ls ih =>
    cases i with
    | zero => simp [clsCells]
    | succ i =>
      have := ih i (by simpa using h)
      rw [show (i + 1) * 2 = i * 2 + 2 by omega]
      simpa [clsCells] using this

/-- size classes lie from A on -/
structure ClsAt (w : World) (A : Option Addr) (n : Nat) (ls : List (Int × Int)) : Prop where
  row : Row w A (clsCells ls)
  len : ls.length = n

theorem ClsAt.frame {S : Nat → Prop} {w w1 : World} {A : Option Addr} {n : Nat} {ls : List (Int × Int)} (h : ClsAt w A n ls) (f : Fr S w w1) (hn : ∀ x, A = some x → ¬ S x.block) : ClsAt w1 A n ls := ⟨h.row.frame f hn, h.len⟩
theorem ClsAt.ext {w w1 : World} {A : Option Addr} {n : Nat} {ls : List (Int × Int)} (h : ClsAt w A n ls) (f : Ext w w1) : ClsAt w1 A n ls := h.frame f fun _ _ => id

theorem ClsAt.cell {w : World} {A : Option Addr} {n : Nat} {ls : List (Int × Int)} (h : ClsAt w A n ls) {i : Nat} (hi : i < n) :
    ∃ x, A = some x ∧ ∃ hl : i < ls.length, w.cell? (x.add (i * 2)) = some (.int .i64 ls[i].1) ∧ w.cell? (x.add (i * 2 + 1)) = some (.int .i64 ls[i].2) := by
  have hl : i < ls.length := by rw [h.len]; exact hi
  obtain ⟨h1, h2⟩ := clsCells_get ls i hl
  obtain ⟨x, hx, c1⟩ := h.row _ _ h1
  obtain ⟨y, hy, c2⟩ := h.row _ _ h2
  rw [hx] at hy
  obtain rfl := Option.some.inj hy
  exact ⟨x, hx, hl, c1, c2⟩

theorem ClsAt.loads {w : World} {A : Option Addr} {n : Nat} {ls : List (Int × Int)} (h : ClsAt w A n ls) {i : Nat} (hi : i < n) :
    ∃ x, A = some x ∧ ∃ hl : i < ls.length, LoadsA w (x.add (i * 2)) 2 #[.int .i64 ls[i].1, .int .i64 ls[i].2] := by
  obtain ⟨x, hx, hl, c1, c2⟩ := h.cell hi
  refine ⟨x, hx, hl, rfl, fun j hj => ?_⟩
  rw [Addr.add_add]
  match j, hj with
  | 0, _ => exact c1
  | 1, _ => exact c2

/-- size classes that are valid -/
structure ClsOk (ls : List (Int × Int)) : Prop where
  len : 1 ≤ ls.length ∧ ls.length ≤ 8
  size : ∀ p ∈ ls, 1 ≤ p.1 ∧ p.1 ≤ 4096
  count : ∀ p ∈ ls, 0 ≤ p.2 ∧ p.2 ≤ 65536
  asc : ∀ i (h : i + 1 < ls.length), ls[i].1 < ls[i + 1].1

theorem clock_ok {w : World} {c : Cfg} (h : c.Ok) : Calls Tryz.prog 177 #[.agg c.cells] w fun e w1 => Ext w w1 ∧ e = .returned (.int .i64 0) := by
  have h1 := h.length; have h2 := h.lateness; have h3 := h.windows
  exact f177_vc fun b1 w2 _ hb he =>
    ⟨_, hb.cell rfl, CondQ.decF (by omega) ⟨_, hb.cell rfl, CondQ.decF (by omega) ⟨_, hb.cell rfl, CondQ.decF (by omega) ⟨_, hb.cell rfl, CondQ.decF (by omega) ⟨_, hb.cell rfl, CondQ.decF (by omega) ⟨_, hb.cell rfl, CondQ.decF (by omega) ⟨he, rfl⟩⟩⟩⟩⟩⟩⟩

theorem table_ok {w : World} {A : Option Addr} {c : Nat} : Calls Tryz.prog 180 #[.slice A 16 c] w fun e w1 => w1 = w ∧ e = .returned (.int .i64 0) :=
  f180_vc (CondQ.no rfl ⟨rfl, rfl⟩)

theorem routes_ok {w : World} {c : Cfg} (h : c.Ok) : Calls Tryz.prog 178 #[.agg c.cells] w fun e w1 => Ext w w1 ∧ e = .returned (.int .i64 0) := by
  have h1 := h.shards; have h2 := h.spread; have h3 := h.table
  refine f178_vc fun b1 w2 _ hb he =>
    ⟨_, hb.cell rfl, CondQ.decF (by omega) ⟨_, hb.cell rfl, CondQ.decF (by omega) ⟨_, hb.cell rfl, CondQ.decF (by omega) ⟨_, hb.cell rfl, _, hb.cell rfl, CondQ.decF (by omega) ⟨_, _, _, hb.cell rfl, ?_⟩⟩⟩⟩⟩
  rw [h3]
  refine table_ok.mono ?_
  rintro e w3 ⟨rfl, rfl⟩
  exact ⟨0, rfl, CondQ.no rfl ⟨he, rfl⟩⟩

theorem classes_ok {w : World} {A : Option Addr} {n c : Nat} {ls : List (Int × Int)} (h : ClsAt w A n ls) (hv : ClsOk ls) :
    Calls Tryz.prog 179 #[.slice A n c] w fun e w1 => Ext w w1 ∧ e = .returned (.int .i64 0) := by
  have hl := hv.len
  rw [h.len] at hl
  refine f179_vc (fun _ w' => Ext w w') (fun _ x w' => 0 ≤ x ∧ x ≤ n ∧ Ext w w') (fun _ x _ => (n - x).toNat) (fun _ w' => Ext w w')
    (fun g i b x w' => i = x ∧ 0 ≤ x ∧ x < n ∧ Ext w w' ∧ g = [((n : Int) - x).toNat] ∧ w.heap.size ≤ b ∧ ∃ hl : x.toNat < ls.length, Blk w' b 101 #[.int .i64 ls[x.toNat].1, .int .i64 ls[x.toNat].2]) ?_ ?_ ?_ ?_ ?_
  · intro w1 h1
    exact ⟨rfl, rfl, rfl, by omega, by omega, h1⟩
  · rintro x w2 m ⟨h0, h1, he⟩ hm
    refine CondQ.dec (fun hlt => ⟨by omega, ?_⟩) (fun _ => he)
    obtain ⟨a, rfl, hl2, hld⟩ := (h.ext he).loads (i := x.toNat) (by omega)
    have hsz := hv.size _ (List.getElem_mem hl2)
    have hct := hv.count _ (List.getElem_mem hl2)
    refine ⟨_, hld, fun b w7 hb7 hb f7 => ⟨rfl, StoreQ.of hb (by simp) (by simp [one]) fun w8 hb8 f8 s8 => ?_⟩⟩
    have hb8 : Blk w8 b 101 #[.int .i64 ls[x.toNat].1, .int .i64 ls[x.toNat].2] := hb8
    have he8 : Ext w w8 := (he.trans f7).then_ f8 fun i hi hj => by have := he.size; omega
    refine ⟨_, hb8.cell rfl, CondQ.decF (by omega) ⟨_, hb8.cell rfl, CondQ.decF (by omega) ⟨_, hb8.cell rfl, CondQ.decF (by omega) ⟨_, hb8.cell rfl, CondQ.decF (by omega) ⟨rfl, rfl, rfl, rfl, h0, by omega, he8, by rw [hm], ?_, hl2, hb8⟩⟩⟩⟩⟩
    have := he.size; omega
  · intro w17 he
    exact ⟨he, rfl⟩
  · rintro m i b x w13 ⟨rfl, h0, h1, he, hm, hbn, hl2, hb⟩
    simp only [List.cons.injEq, and_true] at hm
    have hwr : IntKind.wrap .i64 (i + 1) = i + 1 := wrap_i64_id (by omega) (by omega)
    have hw1 : IntKind.wrap .i64 (i - 1) = i - 1 := wrap_i64_id (by omega) (by omega)
    refine CondQ.dec (fun hi => ?_) (fun hi => ⟨⟨rfl, rfl, rfl, by omega, by omega, he.dr⟩, by omega⟩)
    rw [hw1]
    refine ⟨by omega, ?_⟩
    obtain ⟨a, rfl, hl3, c1, c2⟩ := (h.ext he).cell (i := (i - 1).toNat) (by omega)
    refine ⟨_, hb.dcell rfl, _, c1, CondQ.decF ?_ ⟨⟨rfl, rfl, rfl, by omega, by omega, he.dr⟩, by omega⟩⟩
    have h3 := hv.asc (i - 1).toNat (by omega)
    have h4 : (i - 1).toNat + 1 = i.toNat := by omega
    simp only [h4] at h3
    omega
  · refine CondQ.no ?_ (CondQ.decF (by omega) ⟨rfl, Fr.refl _ _⟩)
    have : ((n : Nat) : Int) ≠ 0 := by omega
    simpa using this

/-- the first class that a size fits -/
def fitIx (ls : List (Int × Int)) (size : Int) : Option Nat := if 1 ≤ size then ls.findIdx? fun p => decide (size ≤ p.1) else none

theorem fit_calls {w : World} {A : Option Addr} {n c : Nat} {ls : List (Int × Int)} {size : Int} (h : ClsAt w A n ls) (hn : n < 9223372036854775807) :
    Calls Tryz.prog 88 #[.slice A n c, .int .i64 size] w fun e w1 => Ext w w1 ∧
      e = .returned (match fitIx ls size with | some i => .tuple #[.int .i64 (i : Nat), .int .i64 0] | none => .tuple #[.int .i64 0, .int .i64 1]) := by
  refine f88_vc (fun _ x w' => 1 ≤ size ∧ 0 ≤ x ∧ x ≤ n ∧ Ext w w' ∧ ∀ j, (hj : j < ls.length) → j < x.toNat → ls[j].1 < size) (fun _ x _ => (n - x).toNat)
    (fun _ w' => Ext w w' ∧ fitIx ls size = none) ?_ ?_ ?_
  · rintro x w1 m ⟨hs, h0, h1, he, hall⟩ hm
    refine CondQ.dec (fun hlt => ⟨by omega, ?_⟩) (fun hge => ⟨he, ?_⟩)
    · obtain ⟨a, rfl, hl, hld⟩ := (h.ext he).loads (i := x.toNat) (by omega)
      refine ⟨_, hld, fun b w7 hb7 hb f7 => ⟨rfl, StoreQ.of hb (by simp) (by simp [one]) fun w8 hb8 f8 s8 => ?_⟩⟩
      have hb8 : Blk w8 b 101 #[.int .i64 ls[x.toNat].1, .int .i64 ls[x.toNat].2] := hb8
      have he8 : Ext w w8 := (he.trans f7).then_ f8 fun i hi hj => by have := he.size; omega
      refine ⟨_, hb8.cell rfl, CondQ.dec (fun hge => ⟨he8, ?_⟩) (fun hlt2 => ?_)⟩
      · have : fitIx ls size = some x.toNat := by
          unfold fitIx
          rw [if_pos hs, List.findIdx?_eq_some_iff_getElem]
          refine ⟨hl, by simpa using hge, fun j hj => ?_⟩
          have := hall j (by omega) hj
          simpa using this
        rw [this]
        show Ending.returned (Value.tuple #[.int .i64 x, .int .i64 0]) = .returned (.tuple #[.int .i64 (x.toNat : Nat), .int .i64 0])
        rw [show ((x.toNat : Nat) : Int) = x by omega]
      · have hwr : IntKind.wrap .i64 (x + 1) = x + 1 := wrap_i64_id (by omega) (by omega)
        rw [hwr]
        refine ⟨⟨rfl, rfl, rfl, hs, by omega, by omega, he8, fun j hj hx => ?_⟩, by omega⟩
        by_cases hjx : j = x.toNat
        · subst hjx; omega
        · exact hall j hj (by omega)
    · unfold fitIx
      rw [if_pos hs, List.findIdx?_eq_none_iff]
      intro p hp
      obtain ⟨j, hj, rfl⟩ := List.mem_iff_getElem.1 hp
      have := hall j hj (by have := h.len; omega)
      simpa using this
  · rintro w9 ⟨he, hf⟩
    rw [hf]
    exact ⟨he, rfl⟩
  · refine CondQ.dec (fun hs => ⟨rfl, rfl, rfl, hs, by omega, by omega, Fr.refl _ _, fun j hj hx => by omega⟩) (fun hs => ⟨Fr.refl _ _, ?_⟩)
    rw [show fitIx ls size = none from by unfold fitIx; rw [if_neg hs]]

theorem fitIx_lt {ls : List (Int × Int)} {size : Int} {i : Nat} (h : fitIx ls size = some i) : i < ls.length := by
  unfold fitIx at h
  split at h
  · exact (List.findIdx?_eq_some_iff_getElem.1 h).1
  · cases h

end Go.Proofs.YtdaookipaknoeaaGreat
