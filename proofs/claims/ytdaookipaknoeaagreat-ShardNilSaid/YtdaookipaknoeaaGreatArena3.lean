/-
  arena.Fit, Alloc.
-/
import Derived.Test.YtdaookipaknoeaaGreatArena2
namespace Go.Proofs.YtdaookipaknoeaaGreat
open Go
set_option linter.unusedVariables false

/-- the class of an arena that a size fits -/
def Arn.fit (s : Arn) (size : Int) : Option Nat := s.kls.findIdx? fun k => decide (size ≤ k.size)

theorem fit1_calls {w : World} {cs : Array Value} {b : Nat} {size n : Int} {cb : Array Value} (h : cs[0]? = some (.int .i64 n)) (hb : Blk w b 3 #[.int .i64 size]) :
    Calls Tryz.prog 159 #[.agg cs, .pointer (some ⟨b, 0, none⟩)] w fun e w1 => Ext w w1 ∧ e = .returned (.bool (decide (size ≤ n))) :=
  f159_vc fun b1 w2 hb1 hbb he => ⟨_, hbb.cell h, _, (he.b hb id).cell rfl, he, rfl⟩

theorem index_calls {w : World} {F : Nat → Prop} {ab : Nat} {s : Arn} {CA : Option Addr} {cc : Nat} {xs : List Value} {sa : Nat → Option Addr} (h : ArenaIn w F ab s CA cc xs sa) {b : Nat} {size : Int} (hb : Blk w b 3 #[.int .i64 size]) (hl : s.kls.length ≤ 8) :
    Calls Tryz.prog 158 #[.slice CA s.kls.length cc, .func (.func 159) #[] #[.pointer (some ⟨b, 0, none⟩)]] w fun e w1 => Ext w w1 ∧
      e = .returned (.int .i64 (match s.fit size with | some i => (i : Nat) | none => -1)) := by
  refine f158_vc (fun _ x w' => 0 ≤ x ∧ x ≤ s.kls.length ∧ Ext w w' ∧ ∀ j (hj : j < s.kls.length), j < x.toNat → ¬ size ≤ s.kls[j].size) (fun _ x _ => (s.kls.length - x).toNat)
    (fun _ w' => Ext w w' ∧ s.fit size = none) ?_ ?_ ?_
  · rintro x w1 m ⟨h0, h1, he, hall⟩ hm
    refine CondQ.dec (fun hlt => ⟨by omega, ?_⟩) (fun hge => ⟨he, ?_⟩)
    · obtain ⟨a, ha⟩ := h.own.ex (by omega)
      have ho := h.own.frame he fun _ _ => id
      rw [ha] at ho ⊢
      have hx : x.toNat < s.kls.length := by omega
      have hk := h.kls x.toNat _ (List.getElem?_eq_getElem hx)
      refine ⟨_, ho.row.loads (by rw [ho.length]; omega), ?_⟩
      refine (fit1_calls (b := b) (cb := #[]) (by rw [drop_take_get (by omega)]; exact hk.size) (he.get hb id)).mono ?_
      rintro e w6 ⟨f6, rfl⟩
      refine ⟨_, rfl, CondQ.dec (fun hs => ⟨he.trans f6, ?_⟩) (fun hs => ?_)⟩
      · have : s.fit size = some x.toNat := by
          unfold Arn.fit
          rw [List.findIdx?_eq_some_iff_getElem]
          exact ⟨hx, by simpa using hs, fun j hj => by simpa using hall j (by omega) hj⟩
        rw [this]
        simp only [Int.toNat_of_nonneg h0]
      · have hwr : IntKind.wrap .i64 (x + 1) = x + 1 := wrap_i64_id (by omega) (by omega)
        rw [hwr]
        refine ⟨⟨rfl, rfl, rfl, by omega, by omega, he.trans f6, fun j hj hjx => ?_⟩, by omega⟩
        by_cases hjx' : j = x.toNat
        · subst hjx'; exact hs
        · exact hall j hj (by omega)
    · unfold Arn.fit
      rw [List.findIdx?_eq_none_iff]
      intro k hk
      obtain ⟨j, hj, rfl⟩ := List.mem_iff_getElem.1 hk
      simpa using hall j hj (by omega)
  · rintro w8 ⟨he, hf⟩
    rw [hf]
    exact ⟨he, rfl⟩
  · exact ⟨rfl, rfl, rfl, by omega, by omega, Fr.refl _ _, fun j hj hx => by omega⟩

theorem ArenaIn.len8 {w : World} {F : Nat → Prop} {ab : Nat} {s : Arn} {CA : Option Addr} {cc : Nat} {xs : List Value} {sa : Nat → Option Addr} (h : ArenaIn w F ab s CA cc xs sa) : xs.length = s.kls.length * 4 := h.own.length

theorem arena_fit {w : World} {F : Nat → Prop} {ab : Nat} {s : Arn} (h : ArenaAt w F ab s) (hl : s.kls.length ≤ 8) {size : Int} (hs : 1 ≤ size) :
    Calls Tryz.prog 97 #[.pointer (some ⟨ab, 0, none⟩), .int .i64 size] w fun e w1 => Ext w w1 ∧
      e = .returned (match s.fit size with | some i => .tuple #[.int .i64 (i : Nat), .int .i64 0] | none => .tuple #[.int .i64 0, .int .i64 1]) := by
  obtain ⟨CA, cc, xs, sa, h⟩ := h
  refine f97_vc fun b1 w2 hb1 hb f2 => ?_
  have ha2 : ArenaAt w2 F ab s := ArenaAt.ext ⟨CA, cc, xs, sa, h⟩ f2
  have hbb : Blk w2 ab 99 (arnCells CA s.kls.length cc s.free s.faults) := f2.get h.here id
  have hin : ArenaIn w2 F ab s CA cc xs sa := by
    refine ⟨hbb, h.foot, h.free, h.own.frame f2 fun _ _ => id, fun i k hi => ?_, h.apart⟩
    have hk := h.kls i k hi
    obtain ⟨c, g1, g2⟩ := hk.slots
    exact ⟨hk.size, hk.count, hk.live, c, g1, g2.keep f2 (fun _ _ => id) (fun _ _ _ => id) (fun _ _ h => h)⟩
  refine ⟨_, _, _, hbb.cell rfl, (index_calls hin hb hl).mono ?_⟩
  rintro e w5 ⟨f5, rfl⟩
  refine ⟨_, rfl, _, (f5.b hb id).cell rfl, CondQ.decF (by omega) ?_⟩
  cases hf : s.fit size with
  | none => exact CondQ.decT (by simp) ⟨f2.trans f5, rfl⟩
  | some i => exact CondQ.decF (by simp) ⟨f2.trans f5, rfl⟩

/-- the arena in a world that has only grown -/
theorem ArenaIn.ext {w w1 : World} {F : Nat → Prop} {ab : Nat} {s : Arn} {CA : Option Addr} {cc : Nat} {xs : List Value} {sa : Nat → Option Addr} (h : ArenaIn w F ab s CA cc xs sa) (f : Ext w w1) : ArenaIn w1 F ab s CA cc xs sa := by
  refine ⟨f.get h.here id, h.foot, h.free, h.own.frame f fun _ _ => id, fun i k hi => ?_, h.apart⟩
  have hk := h.kls i k hi
  obtain ⟨c, g1, g2⟩ := hk.slots
  exact ⟨hk.size, hk.count, hk.live, c, g1, g2.keep f (fun _ _ => id) (fun _ _ _ => id) (fun _ _ h => h)⟩

/-- a slot in use -/
def Slot.took (s : Slot) : Slot := { s with age := s.age + 1, used := true, data := [] }

/-- a class of which a slot was taken: at i, which was there or is new -/
def Kls.take (k : Kls) (i : Nat) : Kls := { k with live := k.live + 1, slots := if i < k.slots.length then k.slots.modify i Slot.took else k.slots ++ [Slot.took ⟨0, false, 0, []⟩] }

/-- class c of the arena is set, and the head of its list of free slots -/
def Arn.set (s : Arn) (c : Nat) (k : Kls) (free : Int) : Arn := { s with kls := s.kls.set c k, free := s.free.set c free }

end Go.Proofs.YtdaookipaknoeaaGreat
