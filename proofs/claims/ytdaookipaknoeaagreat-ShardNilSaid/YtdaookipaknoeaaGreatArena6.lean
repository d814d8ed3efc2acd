/-
  arena: find, Write, Read, Free with the handle of a slot in use.
-/
import Derived.Test.YtdaookipaknoeaaGreatAlloc
namespace Go.Proofs.YtdaookipaknoeaaGreat
open Go
set_option linter.unusedVariables false

/-- (c, i, age) denotes the slot t in use -/
structure Live (s : Arn) (c i : Nat) (k : Kls) (t : Slot) : Prop where
  kls : s.kls[c]? = some k
  slot : k.slots[i]? = some t
  used : t.used = true

def handle (c i : Nat) (age : Int) : Array Value := #[.int .i64 (c : Nat), .int .i64 (i : Nat), .int .i64 age]

theorem find_calls {w : World} {F : Nat → Prop} {ab : Nat} {s : Arn} {a b : Addr} {cc : Nat} {xs : List Value} {sa : Nat → Option Addr} {c i : Nat} {k : Kls} {t : Slot} (h : ArenaIn w F ab s (some a) cc xs sa) (hv : Live s c i k t) (hb : sa c = some b) :
    Calls Tryz.prog 157 #[.pointer (some ⟨ab, 0, none⟩), .agg (handle c i t.age)] w fun e w1 => Ext w w1 ∧ e = .returned (.tuple #[.pointer (some (a.add (c * 4))), .pointer (some (b.add (i * 4))), .int .i64 0]) := by
  have hcl := (List.getElem?_eq_some_iff.1 hv.kls).1
  have hil := (List.getElem?_eq_some_iff.1 hv.slot).1
  refine f157_vc (fun _ hb x w' => x = true ∧ Ext w w' ∧ Blk w' hb 123 (handle c i t.age))
    (fun _ hb p x w' => x = true ∧ p = some (a.add (c * 4)) ∧ Ext w w' ∧ Blk w' hb 123 (handle c i t.age)) (fun _ _ => False) ?_ ?_ ?_ ?_
  · rintro hb x w6 ⟨rfl, f6, hh⟩
    have h6 := h.ext f6
    obtain ⟨k1, k3, k4, cp, k5, k6⟩ := h6.klsCell hv.kls
    refine CondQ.yes rfl ⟨_, _, _, h6.here.dcell rfl, _, hh.dcell rfl, by omega, ?_⟩
    refine ⟨_, Blk.cell (w := w6.drew.drew) hh rfl, CondQ.decT (by omega) ⟨_, Blk.cell (w := w6.drew.drew) hh rfl, sa c, k.slots.length, cp, ?_, rfl, decide_eq_true (by omega), ?_, f6.dr.dr, hh⟩⟩
    · rw [Int.toNat_natCast]; exact k5
    · rw [Int.toNat_natCast]
  · rintro hb p x w13 ⟨rfl, rfl, f13, hh⟩
    have h13 := h.ext f13
    obtain ⟨k1, k3, k4, cp, k5, k6⟩ := h13.klsCell hv.kls
    obtain ⟨y0, y1, y2, y3⟩ := h13.slotCell hv.kls hv.slot (by assumption)
    refine CondQ.yes rfl ⟨_, _, _, k5, _, hh.dcell rfl, by omega, ?_⟩
    rw [show sa c = some b by assumption]
    refine ⟨_, ?_, CondQ.yes hv.used ⟨t.age, ?_, _, Blk.cell (w := w13.drew.drew) hh rfl, CondQ.yes (by simp) ⟨f13.dr.dr, ?_⟩⟩⟩
    · rw [Int.toNat_natCast]; exact y1
    · rw [Int.toNat_natCast]; exact y0
    · rw [Int.toNat_natCast]
  · intro w h; exact h.elim
  · intro b1 w2 hb1 hbb f2
    have h2 := h.ext f2
    exact ⟨_, hbb.dcell rfl, CondQ.decT (by omega) ⟨_, hbb.dcell rfl, _, _, _, h2.here.dcell rfl, rfl, decide_eq_true (by omega), f2.dr, hbb⟩⟩

theorem ArenaIn.free8 {w : World} {F : Nat → Prop} {ab : Nat} {s : Arn} {CA : Option Addr} {cc : Nat} {xs : List Value} {sa : Nat → Option Addr} (h : ArenaIn w F ab s CA cc xs sa) {c : Nat} (hc : c < 8) : ∃ v, s.free[c]? = some v ∧ w.cell? (Addr.add ⟨ab, 1, none⟩ (c * 1)) = some (.int .i64 v) := by
  have hfl : c < s.free.length := by rw [h.free]; exact hc
  refine ⟨_, List.getElem?_eq_getElem hfl, ?_⟩
  rw [Addr.add_mk, cell_blk h.here]
  simp only [arnCells, List.getElem?_toArray, show 1 + c * 1 = c + 1 by omega, List.getElem?_cons_succ]
  rw [List.getElem?_append_left (by simpa using hfl), List.getElem?_map, List.getElem?_eq_getElem hfl]
  rfl

theorem arena_write {w : World} {F : Nat → Prop} {ab : Nat} {s : Arn} {c i : Nat} {k : Kls} {t : Slot} {bA : Option Addr} {bc : Nat} {bs : List Int} (h : ArenaAt w F ab s) (hv : Live s c i k t) (hb : Row w bA (bs.map (Value.int .u8))) (hbc : bA = none → bc = 0) (hn : (bs.length : Int) ≤ k.size) (hn2 : bs.length ≤ 65536) :
    Calls Tryz.prog 160 #[.pointer (some ⟨ab, 0, none⟩), .agg (handle c i t.age), .slice bA bs.length bc] w fun e w1 =>
      e = .returned (.int .i64 0) ∧ ArenaAt w1 (Grow F w w1) ab (s.setK c (k.setS i { t with data := bs })) ∧ Fr (Mod w F arTs []) w w1 := by
  refine f160_vc fun b1 w2 hb1 hbb f2 => ⟨_, hbb.loads0 rfl, ?_⟩
  obtain ⟨CA, cc, xs, sa, hin⟩ := h.ext f2
  have hcl := (List.getElem?_eq_some_iff.1 hv.kls).1
  obtain ⟨a, ha⟩ := hin.own.ex (by omega)
  subst ha
  obtain ⟨b, hsb⟩ := hin.slotSome hv.kls hv.slot
  refine (find_calls hin hv hsb).mono ?_
  rintro e w5 ⟨f5, rfl⟩
  have hin5 := hin.ext f5
  obtain ⟨k1, k3, k4, cp, k5, k6⟩ := hin5.klsCell hv.kls
  have hs2 := f2.size
  have hs5 := f5.size
  refine ⟨_, _, _, rfl, CondQ.no rfl ⟨_, k1, CondQ.decF (by omega) ?_⟩⟩
  intro b11 w12 hb11 hbb11 f12
  have hs12 := f12.size
  have hin12 := hin5.ext f12
  have he12 : Ext w w12 := (f2.trans f5).trans f12
  refine AppQ.own makes_bytes (by rfl) (by omega) (Own.full (sz := 1) (n := 0) hbb11 (by decide) (by rfl)) (hb.frame he12 fun _ _ => id) (by simp) hbc (by simp [one]) (by simp [maxLen]; omega) (by omega) ?_
  intro A13 c13 w13 ho13 f13 hA13 hnil
  rw [Nat.zero_add] at ho13
  rw [List.nil_append] at ho13
  have hs13 := f13.size
  have f13' : Ext w5 w13 := f12.then_ f13 fun j hj ⟨y, hy, e⟩ => by cases hy; simp only at e; omega
  have hin13 := (hin5.ext f13').monoF (G := Grow F w w13) fun j _ hF => .inl hF
  have hby : BytesAt w13 (Grow F w w13) A13 c13 bs := ⟨fun h => by rcases ho13.cases with ⟨_, _, h3, _⟩ | ⟨_, _, h3, _⟩ <;> simp_all, ho13.row, fun x hx => by
    have hxl := ho13.lt x hx
    have : w.heap.size ≤ x.block := by
      rcases hA13 with e | ⟨q, e, hq⟩
      · rw [e] at hx; cases hx; simp only; omega
      · rw [e] at hx; cases hx; simp only; omega
    rw [hx] at ho13
    obtain ⟨_, cur, hcur⟩ := ho13.blk
    exact ⟨.inr ⟨this, hxl⟩, _, cur, hcur, by simp⟩⟩
  obtain ⟨_, hFb, cur, hcb⟩ := hin5.slotsOwn hv.kls hsb
  refine hin13.storeSlot (t' := { t with data := bs }) (j := 3) hv.kls hv.slot hsb (by omega) rfl (fun dA dc hB => ⟨A13, c13, by simp [slotVals], hby⟩) ?_
  intro w15 hin15 f15 s15
  have r1 : Fr (Mod w F arTs []) w w13 := Fr.mod_ext ((f2.trans f5).trans f13')
  refine ⟨rfl, ⟨_, _, _, _, hin15.monoF fun j _ hj => Grow.mono (by omega) hj⟩, r1.then_ f15 fun j hj e => ?_⟩
  subst e
  exact r1.mod_back hj hFb ⟨_, cur, f13'.b hcb id, by decide⟩

theorem arena_read {w : World} {F : Nat → Prop} {ab : Nat} {s : Arn} {c i : Nat} {k : Kls} {t : Slot} (h : ArenaAt w F ab s) (hv : Live s c i k t) (hn2 : t.data.length ≤ 65536) :
    Calls Tryz.prog 190 #[.pointer (some ⟨ab, 0, none⟩), .agg (handle c i t.age)] w fun e w1 =>
      Ext w w1 ∧ ∃ A c1, e = .returned (.tuple #[.slice A t.data.length c1, .int .i64 0]) ∧ Own w1 5 1 A t.data.length c1 (t.data.map (Value.int .u8)) := by
  refine f190_vc fun b1 w2 hb1 hbb f2 => ⟨_, hbb.loads0 rfl, ?_⟩
  obtain ⟨CA, cc, xs, sa, hin⟩ := h.ext f2
  have hcl := (List.getElem?_eq_some_iff.1 hv.kls).1
  obtain ⟨a, ha⟩ := hin.own.ex (by omega)
  subst ha
  obtain ⟨b, hsb⟩ := hin.slotSome hv.kls hv.slot
  refine (find_calls hin hv hsb).mono ?_
  rintro e w5 ⟨f5, rfl⟩
  refine ⟨_, _, _, rfl, CondQ.no rfl fun b9 w10 hb9 hbb9 f10 => ?_⟩
  have hin10 := (hin.ext f5).ext f10
  obtain ⟨y0, y1, y2, dA, dc, y3, y4⟩ := hin10.slotCell hv.kls hv.slot hsb
  refine ⟨_, _, _, y3, ?_⟩
  have hs2 := f2.size
  have hs5 := f5.size
  have he10 : Ext w w10 := (f2.trans f5).trans f10
  refine AppQ.own makes_bytes (by rfl) (by omega) (Own.full (sz := 1) (n := 0) hbb9 (by decide) (by rfl)) y4.row (by simp) y4.nil (by simp [one]) (by simp [maxLen]; omega) (by omega) ?_
  intro A13 c13 w13 ho13 f13 hA13 hnil
  rw [Nat.zero_add] at ho13 ⊢
  rw [List.nil_append] at ho13
  exact ⟨he10.then_ f13 fun j hj ⟨y, hy, e⟩ => (by cases hy; simp only at e; omega), A13, c13, rfl, ho13⟩

end Go.Proofs.YtdaookipaknoeaaGreat
