/-
  Conditions of functions, printed by gen.py (see NOTES).
-/
import Derived.Test.YtdaookipaknoeaaGreatBase
namespace Go.Proofs.YtdaookipaknoeaaGreat
open Go
set_option linter.unusedVariables false

/- heavykeys/heavykeyslaw29.classes -/
def f10_K (R : Ending → World → Prop) : Ann where
  inv := fun g b a w => False
  out := fun g b e a w => match e with | .exit i => False | .ret => RetQ Tryz.prog Tryz.f10 R .ret a w | _ => False
  var := fun g b a w => 0
  after := fun r => none
  before := fun r => none
def f10_pl : Plans := fun | _ => (.done, [])
theorem f10_vc {R : Ending → World → Prop} {w : World}
    (entry : (#[.int .i64 8, .int .i64 300] : Array Value).size = 2 ∧ (#[.int .i64 32, .int .i64 600] : Array Value).size = 2 ∧ (#[.int .i64 256, .int .i64 200] : Array Value).size = 2 ∧ AllocQ w 101 #[.int .i64 8, .int .i64 300, .int .i64 32, .int .i64 600, .int .i64 256, .int .i64 200] fun b1 w2 => R (.returned (.slice (some ⟨b1, 0, none⟩) 3 3)) w2) : Calls Tryz.prog 10 #[] w R :=
  calls_of_vc (B := bodied) (pl := f10_pl) (K := f10_K R) follows_mixed bodied_ok Tryz.func10 (c := codeOf Tryz.f10) (by kernel_rfl) (by kernel_rfl) (fun _ _ _ _ => (by kernel_rfl))
    ((.none (by kernel_rfl)))
    (cast_of (by kernel_rfl) entry)

/- heavykeys/arena.Check -/
def f45_MB3 (lA : Option Addr) (ln lc : Nat) (JB3 : List Nat → World → Prop) (g : List Nat) (a : Act) (w : World) : Prop := sizeS 52 a (a.tmps.getD 0 undef = (.slice lA ln lc : Value) ∧ JB3 g w)
theorem f45_MB3.el {lA : Option Addr} {ln lc : Nat} {JB3 : List Nat → World → Prop} {g : List Nat} {a : Act} {w : World} {C : Act → World → Prop} (h : f45_MB3 lA ln lc JB3 g a w) (H : ∀ (ds : Nat → Value), JB3 g w → C (frameD ds 52 [(0, .slice lA ln lc)]) w) : C a w :=
  have h := sizeS.out h; have hs := h.1; have h := h.2; have q0 := h.1; have h := h.2; el_of (l := [(0, .slice lA ln lc)]) hs (⟨q0, trivial⟩) (H _ h)
def f45_I0 (lA : Option Addr) (ln lc : Nat) (JL0 : List Nat → Int → World → Prop) (g : List Nat) (a : Act) (w : World) : Prop := sizeS 52 a (intS .i64 (a.tmps.getD 15 undef) fun x_15 => a.tmps.getD 0 undef = (.slice lA ln lc : Value) ∧ a.tmps.getD 13 undef = (.slice lA ln lc : Value) ∧ a.tmps.getD 14 undef = (.int .i64 ((ln : Nat) : Int) : Value) ∧ JL0 g x_15 w)
theorem f45_I0.el {lA : Option Addr} {ln lc : Nat} {JL0 : List Nat → Int → World → Prop} {g : List Nat} {a : Act} {w : World} {C : Act → World → Prop} (h : f45_I0 lA ln lc JL0 g a w) (H : ∀ (ds : Nat → Value) (x_15 : Int), JL0 g x_15 w → C (frameD ds 52 [(0, .slice lA ln lc), (13, .slice lA ln lc), (14, .int .i64 ((ln : Nat) : Int)), (15, .int .i64 x_15)]) w) : C a w :=
  have h := sizeS.out h; have hs := h.1; have h := h.2; Exists.elim (intS.out h) fun x_15 h => have q15 := h.1; have h := h.2; have q0 := h.1; have h := h.2; have q13 := h.1; have h := h.2; have q14 := h.1; have h := h.2; el_of (l := [(0, .slice lA ln lc), (13, .slice lA ln lc), (14, .int .i64 ((ln : Nat) : Int)), (15, .int .i64 x_15)]) hs (⟨q0, q13, q14, q15, trivial⟩) (H _ x_15 h)
def f45_MX0_0 (lA : Option Addr) (ln lc : Nat) (JX0_0 : List Nat → World → Prop) (g : List Nat) (a : Act) (w : World) : Prop := sizeS 52 a (JX0_0 g w)
theorem f45_MX0_0.el {lA : Option Addr} {ln lc : Nat} {JX0_0 : List Nat → World → Prop} {g : List Nat} {a : Act} {w : World} {C : Act → World → Prop} (h : f45_MX0_0 lA ln lc JX0_0 g a w) (H : ∀ (ds : Nat → Value), JX0_0 g w → C (frameD ds 52 []) w) : C a w :=
  have h := sizeS.out h; have hs := h.1; have h := h.2; el_of (l := []) hs (trivial) (H _ h)
def f45_MB8 (lA : Option Addr) (ln lc : Nat) (JB8 : List Nat → Int → Nat → Int → World → Prop) (g : List Nat) (a : Act) (w : World) : Prop := sizeS 52 a (intS .i64 (a.tmps.getD 3 undef) fun i_3 => blkS (a.tmps.getD 4 undef) fun c_4b => intS .i64 (a.tmps.getD 15 undef) fun x_15 => a.tmps.getD 0 undef = (.slice lA ln lc : Value) ∧ a.tmps.getD 13 undef = (.slice lA ln lc : Value) ∧ a.tmps.getD 14 undef = (.int .i64 ((ln : Nat) : Int) : Value) ∧ JB8 g i_3 c_4b x_15 w)
theorem f45_MB8.el {lA : Option Addr} {ln lc : Nat} {JB8 : List Nat → Int → Nat → Int → World → Prop} {g : List Nat} {a : Act} {w : World} {C : Act → World → Prop} (h : f45_MB8 lA ln lc JB8 g a w) (H : ∀ (ds : Nat → Value) (i_3 : Int) (c_4b : Nat) (x_15 : Int), JB8 g i_3 c_4b x_15 w → C (frameD ds 52 [(0, .slice lA ln lc), (3, .int .i64 i_3), (4, .pointer (some ⟨c_4b, 0, none⟩)), (13, .slice lA ln lc), (14, .int .i64 ((ln : Nat) : Int)), (15, .int .i64 x_15)]) w) : C a w :=
  have h := sizeS.out h; have hs := h.1; have h := h.2; Exists.elim (intS.out h) fun i_3 h => have q3 := h.1; have h := h.2; Exists.elim (blkS.out h) fun c_4b h => have q4 := h.1; have h := h.2; Exists.elim (intS.out h) fun x_15 h => have q15 := h.1; have h := h.2; have q0 := h.1; have h := h.2; have q13 := h.1; have h := h.2; have q14 := h.1; have h := h.2; el_of (l := [(0, .slice lA ln lc), (3, .int .i64 i_3), (4, .pointer (some ⟨c_4b, 0, none⟩)), (13, .slice lA ln lc), (14, .int .i64 ((ln : Nat) : Int)), (15, .int .i64 x_15)]) hs (⟨q0, q3, q4, q13, q14, q15, trivial⟩) (H _ i_3 c_4b x_15 h)
def f45_K (R : Ending → World → Prop) (lA : Option Addr) (ln lc : Nat) (JB3 : List Nat → World → Prop) (JL0 : List Nat → Int → World → Prop) (VL0 : List Nat → Int → World → Nat) (JX0_0 : List Nat → World → Prop) (JB8 : List Nat → Int → Nat → Int → World → Prop) : Ann where
  inv := fun g b a w => if b = 0 then f45_I0 lA ln lc JL0 g a w else False
  out := fun g b e a w => match e with | .exit i => if b = 0 then (if i = 0 then f45_MX0_0 lA ln lc JX0_0 g a w else False) else False | .ret => RetQ Tryz.prog Tryz.f45 R .ret a w | _ => False
  var := fun g b a w => if b = 0 then VL0 g (slotI a 15) w else 0
  after := fun r => none
  before := fun r => if r = 3 then some (f45_MB3 lA ln lc JB3) else if r = 8 then some (f45_MB8 lA ln lc JB8) else none
def f45_pl : Plans := fun | 8 => (.val 0 <| .val 1 <| .val 2 <| .val 3 <| .val 5 <| .val 6 <| .val 7 <| .val 8 <| .val 9 <| .ld 4 [] <| .ld 10 [] <| .val 11 <| .val 12 <| .done, []) | _ => (.done, [])
theorem f45_vc {R : Ending → World → Prop} {lA : Option Addr} {ln lc : Nat} {w : World} (JB3 : List Nat → World → Prop) (JL0 : List Nat → Int → World → Prop) (VL0 : List Nat → Int → World → Nat) (JX0_0 : List Nat → World → Prop) (JB8 : List Nat → Int → Nat → Int → World → Prop)
    (before3 : ∀ (w1 : World), JB3 [] w1 → (.slice lA ln lc : Value) = .slice lA ln lc ∧ (.slice lA ln lc : Value) = .slice lA ln lc ∧ (.int .i64 ((ln : Nat) : Int) : Value) = .int .i64 ((ln : Nat) : Int) ∧ JL0 [] 0 w1)
    (round0 : ∀ (x_15 : Int) (w2 : World) (m3 : Nat), JL0 [] x_15 w2 → VL0 [] x_15 w2 = m3 → CondQ (decide (x_15 < ((ln : Nat) : Int))) ((0 ≤ x_15 ∧ x_15 < ((ln : Nat) : Int)) ∧ optQ lA fun a4 => ∃ cs5 : Array Value, LoadsA w2 (Addr.add a4 (Int.toNat x_15 * 2)) 2 cs5 ∧ AllocQ w2 101 #[.int .i64 0, .int .i64 0] fun b6 w7 => (cs5 : Array Value).size = 2 ∧ StoreQ w7 ⟨b6, 0, none⟩ cs5.toList fun w8 => ∃ n9 : Int, w8.cell? ⟨b6, 0, none⟩ = some (.int .i64 n9) ∧ CondQ (decide (n9 < 1)) (R (.returned (.int .i64 1)) w8) (∃ n10 : Int, w8.cell? ⟨b6, 0, none⟩ = some (.int .i64 n10) ∧ CondQ (decide (n10 > 4096)) (R (.returned (.int .i64 1)) w8) (∃ n11 : Int, w8.cell? ⟨b6, 1, none⟩ = some (.int .i64 n11) ∧ CondQ (decide (n11 < 0)) (R (.returned (.int .i64 1)) w8) (∃ n12 : Int, w8.cell? ⟨b6, 1, none⟩ = some (.int .i64 n12) ∧ CondQ (decide (n12 > 65536)) (R (.returned (.int .i64 1)) w8) ((.slice lA ln lc : Value) = .slice lA ln lc ∧ (.slice lA ln lc : Value) = .slice lA ln lc ∧ (.int .i64 ((ln : Nat) : Int) : Value) = .int .i64 ((ln : Nat) : Int) ∧ JB8 [m3] x_15 b6 x_15 w8))))) (JX0_0 [] w2))
    (exit0_0 : ∀ (w17 : World), JX0_0 [] w17 → R (.returned (.int .i64 0)) w17)
    (before8 : ∀ (m3 : Nat) (i_3 : Int) (c_4b : Nat) (x_15 : Int) (w13 : World), JB8 [m3] i_3 c_4b x_15 w13 → CondQ (decide (i_3 > 0)) ((0 ≤ IntKind.wrap .i64 (i_3 - 1) ∧ IntKind.wrap .i64 (i_3 - 1) < ((ln : Nat) : Int)) ∧ optQ lA fun a14 => ∃ n15 : Int, w13.drew.cell? ⟨c_4b, 0, none⟩ = some (.int .i64 n15) ∧ ∃ n16 : Int, w13.drew.cell? (Addr.add a14 (Int.toNat (IntKind.wrap .i64 (i_3 - 1)) * 2)) = some (.int .i64 n16) ∧ CondQ (decide (n15 ≤ n16)) (R (.returned (.int .i64 6)) w13.drew) (((.slice lA ln lc : Value) = .slice lA ln lc ∧ (.slice lA ln lc : Value) = .slice lA ln lc ∧ (.int .i64 ((ln : Nat) : Int) : Value) = .int .i64 ((ln : Nat) : Int) ∧ JL0 [] (IntKind.wrap .i64 (x_15 + 1)) w13.drew) ∧ VL0 [] (IntKind.wrap .i64 (x_15 + 1)) w13.drew < m3)) (((.slice lA ln lc : Value) = .slice lA ln lc ∧ (.slice lA ln lc : Value) = .slice lA ln lc ∧ (.int .i64 ((ln : Nat) : Int) : Value) = .int .i64 ((ln : Nat) : Int) ∧ JL0 [] (IntKind.wrap .i64 (x_15 + 1)) w13.drew) ∧ VL0 [] (IntKind.wrap .i64 (x_15 + 1)) w13.drew < m3))
    (entry : CondQ (((ln : Nat) : Int) == 0) (R (.returned (.int .i64 1)) w) (CondQ (decide (((ln : Nat) : Int) > 8)) (R (.returned (.int .i64 1)) w) ((.slice lA ln lc : Value) = .slice lA ln lc ∧ JB3 [] w))) : Calls Tryz.prog 45 #[.slice lA ln lc] w R :=
  calls_of_vc (B := bodied) (pl := f45_pl) (K := f45_K R lA ln lc JB3 JL0 VL0 JX0_0 JB8) follows_mixed bodied_ok Tryz.func45 (c := codeOf Tryz.f45) (by kernel_rfl) (by kernel_rfl) (fun _ _ _ _ => (by kernel_rfl))
    ((.seq (by kernel_rfl) (by kernel_rfl) (.none (by kernel_rfl)) (.cut (f45_MB3 lA ln lc JB3) (by kernel_rfl) (by kernel_rfl) (fun a w h => f45_MB3.el (lA := lA) (ln := ln) (lc := lc) (C := fun a w => vcE Tryz.prog bodied f45_pl (f45_K R lA ln lc JB3 JL0 VL0 JX0_0 JB8) [] 0 _ _ ⟨a, []⟩ w) h fun ds hJ => cast_of (by kernel_rfl) (before3 w hJ)) (.none (by kernel_rfl)) (.seq (by kernel_rfl) (by kernel_rfl) (.seq (by kernel_rfl) (by kernel_rfl) (.none (by kernel_rfl)) (.block 0 (by kernel_rfl) (.loop (by kernel_rfl) (by
      intro e a w hr h
      cases e with
      | exit i => (replace h : if i = 0 then f45_MX0_0 lA ln lc JX0_0 [] a w else False := cast_of (by kernel_rfl) h); (refine ite_elim h (fun hi h => by subst hi; exact f45_MX0_0.el (lA := lA) (ln := ln) (lc := lc) (C := fun a w => (_ : Exit → Env → World → Prop) (.exit 0) ⟨a, []⟩ w) h fun ds hJ => cast_of (by kernel_rfl) (exit0_0 w hJ)) (fun _ h => ?_); exact h.elim)
      | ret => exact absurd rfl hr
      | _ => exact (cast_of (q := False) (by kernel_rfl) h).elim)
      (fun _ _ h => cast_of (by kernel_rfl) h)
      (fun _ _ _ h => cast_of (by kernel_rfl) h)
      (fun m3 a w h => f45_I0.el (lA := lA) (ln := ln) (lc := lc) (C := fun a w => (f45_K R lA ln lc JB3 JL0 VL0 JX0_0 JB8).var [] 0 a w = m3 → vcE Tryz.prog bodied f45_pl (f45_K R lA ln lc JB3 JL0 VL0 JX0_0 JB8) (m3 :: []) 0 _ _ ⟨a, []⟩ w) (cast_of (q := f45_I0 lA ln lc JL0 [] a w) (by kernel_rfl) h) fun ds x_15 hJ hm => cast_of (by kernel_rfl) (round0 x_15 w m3 hJ (cast_of (by kernel_rfl) hm)))
      (fun m3 => (.seq (by kernel_rfl) (by kernel_rfl) (.none (by kernel_rfl)) (.seq (by kernel_rfl) (by kernel_rfl) (.none (by kernel_rfl)) (.seq (by kernel_rfl) (by kernel_rfl) (.block 1 (by kernel_rfl) (.seq (by kernel_rfl) (by kernel_rfl) (.none (by kernel_rfl)) (.cut (f45_MB8 lA ln lc JB8) (by kernel_rfl) (by kernel_rfl) (fun a w h => f45_MB8.el (lA := lA) (ln := ln) (lc := lc) (C := fun a w => vcE Tryz.prog bodied f45_pl (f45_K R lA ln lc JB3 JL0 VL0 JX0_0 JB8) [m3] 1 _ _ ⟨a, []⟩ w) h fun ds i_3 c_4b x_15 hJ => cast_of (by kernel_rfl) (before8 m3 i_3 c_4b x_15 w hJ)) (.none (by kernel_rfl)) (.none (by kernel_rfl))))) (.none (by kernel_rfl))))))))) (.none (by kernel_rfl))))))
    (cast_of (by kernel_rfl) entry)

/- heavykeys/arena.New -/
def f9_I0 (lA : Option Addr) (ln lc : Nat) (JL0 : List Nat → Nat → Int → World → Prop) (g : List Nat) (a : Act) (w : World) : Prop := sizeS 40 a (blkS (a.tmps.getD 5 undef) fun a_5b => intS .i64 (a.tmps.getD 17 undef) fun x_17 => a.tmps.getD 15 undef = (.slice lA ln lc : Value) ∧ a.tmps.getD 16 undef = (.int .i64 ((ln : Nat) : Int) : Value) ∧ JL0 g a_5b x_17 w)
theorem f9_I0.el {lA : Option Addr} {ln lc : Nat} {JL0 : List Nat → Nat → Int → World → Prop} {g : List Nat} {a : Act} {w : World} {C : Act → World → Prop} (h : f9_I0 lA ln lc JL0 g a w) (H : ∀ (ds : Nat → Value) (a_5b : Nat) (x_17 : Int), JL0 g a_5b x_17 w → C (frameD ds 40 [(5, .pointer (some ⟨a_5b, 0, none⟩)), (15, .slice lA ln lc), (16, .int .i64 ((ln : Nat) : Int)), (17, .int .i64 x_17)]) w) : C a w :=
  have h := sizeS.out h; have hs := h.1; have h := h.2; Exists.elim (blkS.out h) fun a_5b h => have q5 := h.1; have h := h.2; Exists.elim (intS.out h) fun x_17 h => have q17 := h.1; have h := h.2; have q15 := h.1; have h := h.2; have q16 := h.1; have h := h.2; el_of (l := [(5, .pointer (some ⟨a_5b, 0, none⟩)), (15, .slice lA ln lc), (16, .int .i64 ((ln : Nat) : Int)), (17, .int .i64 x_17)]) hs (⟨q5, q15, q16, q17, trivial⟩) (H _ a_5b x_17 h)
def f9_MX0_0 (lA : Option Addr) (ln lc : Nat) (JX0_0 : List Nat → Nat → World → Prop) (g : List Nat) (a : Act) (w : World) : Prop := sizeS 40 a (blkS (a.tmps.getD 5 undef) fun a_5b => JX0_0 g a_5b w)
theorem f9_MX0_0.el {lA : Option Addr} {ln lc : Nat} {JX0_0 : List Nat → Nat → World → Prop} {g : List Nat} {a : Act} {w : World} {C : Act → World → Prop} (h : f9_MX0_0 lA ln lc JX0_0 g a w) (H : ∀ (ds : Nat → Value) (a_5b : Nat), JX0_0 g a_5b w → C (frameD ds 40 [(5, .pointer (some ⟨a_5b, 0, none⟩))]) w) : C a w :=
  have h := sizeS.out h; have hs := h.1; have h := h.2; Exists.elim (blkS.out h) fun a_5b h => have q5 := h.1; have h := h.2; el_of (l := [(5, .pointer (some ⟨a_5b, 0, none⟩))]) hs (⟨q5, trivial⟩) (H _ a_5b h)
def f9_K (R : Ending → World → Prop) (lA : Option Addr) (ln lc : Nat) (JL0 : List Nat → Nat → Int → World → Prop) (VL0 : List Nat → Nat → Int → World → Nat) (JX0_0 : List Nat → Nat → World → Prop) : Ann where
  inv := fun g b a w => if b = 0 then f9_I0 lA ln lc JL0 g a w else False
  out := fun g b e a w => match e with | .exit i => if b = 0 then (if i = 0 then f9_MX0_0 lA ln lc JX0_0 g a w else False) else False | .ret => RetQ Tryz.prog Tryz.f9 R .ret a w | _ => False
  var := fun g b a w => if b = 0 then VL0 g (slotK a 5) (slotI a 17) w else 0
  after := fun r => none
  before := fun r => none
def f9_pl : Plans := fun | 8 => (.val 0 <| .val 1 <| .val 2 <| .val 3 <| .ld 4 [[8], [11]] <| .ld 5 [[6, 7], [6, 7, 8], [11]] <| .val 6 <| .eff 7 <| .eff 8 <| .val 9 <| .val 10 <| .eff 11 <| .done, [7, 8, 11]) | _ => (.done, [])
theorem f9_vc {R : Ending → World → Prop} {lA : Option Addr} {ln lc : Nat} {w : World} (JL0 : List Nat → Nat → Int → World → Prop) (VL0 : List Nat → Nat → Int → World → Nat) (JX0_0 : List Nat → Nat → World → Prop)
    (round0 : ∀ (a_5b : Nat) (x_17 : Int) (w6 : World) (m7 : Nat), JL0 [] a_5b x_17 w6 → VL0 [] a_5b x_17 w6 = m7 → CondQ (decide (x_17 < ((ln : Nat) : Int))) ((0 ≤ x_17 ∧ x_17 < ((ln : Nat) : Int)) ∧ optQ lA fun a8 => ∃ cs9 : Array Value, LoadsA w6 (Addr.add a8 (Int.toNat x_17 * 2)) 2 cs9 ∧ AllocQ w6 101 #[.int .i64 0, .int .i64 0] fun b10 w11 => (cs9 : Array Value).size = 2 ∧ StoreQ w11 ⟨b10, 0, none⟩ cs9.toList fun w12 => ∃ (A13 : Option Addr) (m13 c13 : Nat), w12.drew.cell? ⟨a_5b, 0, none⟩ = some (.slice A13 m13 c13) ∧ ∃ cs14 : Array Value, LoadsA w12.drew ⟨b10, 0, none⟩ 2 cs14 ∧ (cs14 : Array Value).size = 2 ∧ (setL #[.int .i64 0, .int .i64 0, .slice none 0 0, .int .i64 0] 0 (Array.toList cs14) : Array Value).size = 4 ∧ AllocQ w12.drew 104 (setL #[.int .i64 0, .int .i64 0, .slice none 0 0, .int .i64 0] 0 (Array.toList cs14)) fun b15 w16 => w16.cell? ⟨a_5b, 0, none⟩ = some (.slice A13 m13 c13) ∧ AppQ Tryz.prog #[96, 96] 96 (.slice A13 m13 c13) (.slice (some ⟨b15, 0, none⟩) 1 1) w16 fun A17 m17 c17 w17 => StoreQ w17 ⟨a_5b, 0, none⟩ [.slice A17 m17 c17] fun w18 => (0 ≤ x_17 ∧ x_17 < ((8 : Nat) : Int)) ∧ StoreQ w18 (Addr.add (⟨a_5b, 1, none⟩ : Addr) (Int.toNat x_17 * 1)) [.int .i64 (-1)] fun w19 => ((.slice lA ln lc : Value) = .slice lA ln lc ∧ (.int .i64 ((ln : Nat) : Int) : Value) = .int .i64 ((ln : Nat) : Int) ∧ JL0 [] a_5b (IntKind.wrap .i64 (x_17 + 1)) w19) ∧ VL0 [] a_5b (IntKind.wrap .i64 (x_17 + 1)) w19 < m7) (JX0_0 [] a_5b w6))
    (exit0_0 : ∀ (a_5b : Nat) (w20 : World), JX0_0 [] a_5b w20 → R (.returned (.tuple #[.pointer (some ⟨a_5b, 0, none⟩), .int .i64 0])) w20)
    (entry : Calls Tryz.prog 45 #[.slice lA ln lc] w fun e1 w2 => ∃ n3 : Int, e1 = .returned (.int .i64 n3) ∧ CondQ (n3 != 0) (R (.returned (.tuple #[.pointer none, .int .i64 n3])) w2) (AllocQ w2 99 #[.slice none 0 0, .int .i64 0, .int .i64 0, .int .i64 0, .int .i64 0, .int .i64 0, .int .i64 0, .int .i64 0, .int .i64 0, .int .i64 0] fun b4 w5 => (.slice lA ln lc : Value) = .slice lA ln lc ∧ (.int .i64 ((ln : Nat) : Int) : Value) = .int .i64 ((ln : Nat) : Int) ∧ JL0 [] b4 0 w5)) : Calls Tryz.prog 9 #[.slice lA ln lc] w R :=
  calls_of_vc (B := bodied) (pl := f9_pl) (K := f9_K R lA ln lc JL0 VL0 JX0_0) follows_mixed bodied_ok Tryz.func9 (c := codeOf Tryz.f9) (by kernel_rfl) (by kernel_rfl) (fun _ _ _ _ => (by kernel_rfl))
    ((.seq (by kernel_rfl) (by kernel_rfl) (.none (by kernel_rfl)) (.seq (by kernel_rfl) (by kernel_rfl) (.none (by kernel_rfl)) (.seq (by kernel_rfl) (by kernel_rfl) (.none (by kernel_rfl)) (.seq (by kernel_rfl) (by kernel_rfl) (.seq (by kernel_rfl) (by kernel_rfl) (.none (by kernel_rfl)) (.block 0 (by kernel_rfl) (.loop (by kernel_rfl) (by
      intro e a w hr h
      cases e with
      | exit i => (replace h : if i = 0 then f9_MX0_0 lA ln lc JX0_0 [] a w else False := cast_of (by kernel_rfl) h); (refine ite_elim h (fun hi h => by subst hi; exact f9_MX0_0.el (lA := lA) (ln := ln) (lc := lc) (C := fun a w => (_ : Exit → Env → World → Prop) (.exit 0) ⟨a, []⟩ w) h fun ds a_5b hJ => cast_of (by kernel_rfl) (exit0_0 a_5b w hJ)) (fun _ h => ?_); exact h.elim)
      | ret => exact absurd rfl hr
      | _ => exact (cast_of (q := False) (by kernel_rfl) h).elim)
      (fun _ _ h => cast_of (by kernel_rfl) h)
      (fun _ _ _ h => cast_of (by kernel_rfl) h)
      (fun m7 a w h => f9_I0.el (lA := lA) (ln := ln) (lc := lc) (C := fun a w => (f9_K R lA ln lc JL0 VL0 JX0_0).var [] 0 a w = m7 → vcE Tryz.prog bodied f9_pl (f9_K R lA ln lc JL0 VL0 JX0_0) (m7 :: []) 0 _ _ ⟨a, []⟩ w) (cast_of (q := f9_I0 lA ln lc JL0 [] a w) (by kernel_rfl) h) fun ds a_5b x_17 hJ hm => cast_of (by kernel_rfl) (round0 a_5b x_17 w m7 hJ (cast_of (by kernel_rfl) hm)))
      (fun m7 => (.none (by kernel_rfl)))))) (.none (by kernel_rfl)))))))
    (cast_of (by kernel_rfl) entry)

/- (*heavykeys/arena.Arena).Fit -/
def f97_K (R : Ending → World → Prop) (a_b : Nat) (size : Int) : Ann where
  inv := fun g b a w => False
  out := fun g b e a w => match e with | .exit i => False | .ret => RetQ Tryz.prog Tryz.f97 R .ret a w | _ => False
  var := fun g b a w => 0
  after := fun r => none
  before := fun r => none
def f97_pl : Plans := fun | _ => (.done, [])
theorem f97_vc {R : Ending → World → Prop} {a_b : Nat} {size : Int} {w : World}
    (entry : AllocQ w 3 #[.int .i64 size] fun b1 w2 => ∃ (A3 : Option Addr) (m3 c3 : Nat), w2.cell? ⟨a_b, 0, none⟩ = some (.slice A3 m3 c3) ∧ Calls Tryz.prog 158 #[.slice A3 m3 c3, .func (.func 159) #[] #[.pointer (some ⟨b1, 0, none⟩)]] w2 fun e4 w5 => ∃ n6 : Int, e4 = .returned (.int .i64 n6) ∧ ∃ n7 : Int, w5.cell? ⟨b1, 0, none⟩ = some (.int .i64 n7) ∧ CondQ (decide (n7 < 1)) (R (.returned (.tuple #[.int .i64 0, .int .i64 1])) w5) (CondQ (decide (n6 < 0)) (R (.returned (.tuple #[.int .i64 0, .int .i64 1])) w5) (R (.returned (.tuple #[.int .i64 n6, .int .i64 0])) w5))) : Calls Tryz.prog 97 #[.pointer (some ⟨a_b, 0, none⟩), .int .i64 size] w R :=
  calls_of_vc (B := bodied) (pl := f97_pl) (K := f97_K R a_b size) follows_mixed bodied_ok Tryz.func97 (c := codeOf Tryz.f97) (by kernel_rfl) (by kernel_rfl) (fun _ _ _ _ => (by kernel_rfl))
    ((.none (by kernel_rfl)))
    (cast_of (by kernel_rfl) entry)

/- slices.IndexFunc[[]heavykeys/arena.class,heavykeys/arena.class] -/
def f158_I0 (sA : Option Addr) (sn sc : Nat) (cap : Value) (JL0 : List Nat → Int → World → Prop) (g : List Nat) (a : Act) (w : World) : Prop := sizeS 19 a (intS .i64 (a.tmps.getD 8 undef) fun x_8 => a.tmps.getD 0 undef = (.slice sA sn sc : Value) ∧ a.tmps.getD 1 undef = (.func (.func 159) #[] #[cap] : Value) ∧ a.tmps.getD 7 undef = (.int .i64 ((sn : Nat) : Int) : Value) ∧ JL0 g x_8 w)
theorem f158_I0.el {sA : Option Addr} {sn sc : Nat} {cap : Value} {JL0 : List Nat → Int → World → Prop} {g : List Nat} {a : Act} {w : World} {C : Act → World → Prop} (h : f158_I0 sA sn sc cap JL0 g a w) (H : ∀ (ds : Nat → Value) (x_8 : Int), JL0 g x_8 w → C (frameD ds 19 [(0, .slice sA sn sc), (1, .func (.func 159) #[] #[cap]), (7, .int .i64 ((sn : Nat) : Int)), (8, .int .i64 x_8)]) w) : C a w :=
  have h := sizeS.out h; have hs := h.1; have h := h.2; Exists.elim (intS.out h) fun x_8 h => have q8 := h.1; have h := h.2; have q0 := h.1; have h := h.2; have q1 := h.1; have h := h.2; have q7 := h.1; have h := h.2; el_of (l := [(0, .slice sA sn sc), (1, .func (.func 159) #[] #[cap]), (7, .int .i64 ((sn : Nat) : Int)), (8, .int .i64 x_8)]) hs (⟨q0, q1, q7, q8, trivial⟩) (H _ x_8 h)
def f158_MX0_0 (sA : Option Addr) (sn sc : Nat) (cap : Value) (JX0_0 : List Nat → World → Prop) (g : List Nat) (a : Act) (w : World) : Prop := sizeS 19 a (JX0_0 g w)
theorem f158_MX0_0.el {sA : Option Addr} {sn sc : Nat} {cap : Value} {JX0_0 : List Nat → World → Prop} {g : List Nat} {a : Act} {w : World} {C : Act → World → Prop} (h : f158_MX0_0 sA sn sc cap JX0_0 g a w) (H : ∀ (ds : Nat → Value), JX0_0 g w → C (frameD ds 19 []) w) : C a w :=
  have h := sizeS.out h; have hs := h.1; have h := h.2; el_of (l := []) hs (trivial) (H _ h)
def f158_K (R : Ending → World → Prop) (sA : Option Addr) (sn sc : Nat) (cap : Value) (JL0 : List Nat → Int → World → Prop) (VL0 : List Nat → Int → World → Nat) (JX0_0 : List Nat → World → Prop) : Ann where
  inv := fun g b a w => if b = 0 then f158_I0 sA sn sc cap JL0 g a w else False
  out := fun g b e a w => match e with | .exit i => if b = 0 then (if i = 0 then f158_MX0_0 sA sn sc cap JX0_0 g a w else False) else False | .ret => RetQ Tryz.prog Tryz.f158 R .ret a w | _ => False
  var := fun g b a w => if b = 0 then VL0 g (slotI a 8) w else 0
  after := fun r => none
  before := fun r => none
def f158_pl : Plans := fun | _ => (.done, [])
theorem f158_vc {R : Ending → World → Prop} {sA : Option Addr} {sn sc : Nat} {cap : Value} {w : World} (JL0 : List Nat → Int → World → Prop) (VL0 : List Nat → Int → World → Nat) (JX0_0 : List Nat → World → Prop)
    (round0 : ∀ (x_8 : Int) (w1 : World) (m2 : Nat), JL0 [] x_8 w1 → VL0 [] x_8 w1 = m2 → CondQ (decide (x_8 < ((sn : Nat) : Int))) ((0 ≤ x_8 ∧ x_8 < ((sn : Nat) : Int)) ∧ optQ sA fun a3 => ∃ cs4 : Array Value, LoadsA w1 (Addr.add a3 (Int.toNat x_8 * 4)) 4 cs4 ∧ Calls Tryz.prog 159 #[.agg cs4, cap] w1 fun e5 w6 => ∃ b7 : Bool, e5 = .returned (.bool b7) ∧ CondQ b7 (R (.returned (.int .i64 x_8)) w6) (((.slice sA sn sc : Value) = .slice sA sn sc ∧ (.func (.func 159) #[] #[cap] : Value) = .func (.func 159) #[] #[cap] ∧ (.int .i64 ((sn : Nat) : Int) : Value) = .int .i64 ((sn : Nat) : Int) ∧ JL0 [] (IntKind.wrap .i64 (x_8 + 1)) w6) ∧ VL0 [] (IntKind.wrap .i64 (x_8 + 1)) w6 < m2)) (JX0_0 [] w1))
    (exit0_0 : ∀ (w8 : World), JX0_0 [] w8 → R (.returned (.int .i64 (-1))) w8)
    (entry : (.slice sA sn sc : Value) = .slice sA sn sc ∧ (.func (.func 159) #[] #[cap] : Value) = .func (.func 159) #[] #[cap] ∧ (.int .i64 ((sn : Nat) : Int) : Value) = .int .i64 ((sn : Nat) : Int) ∧ JL0 [] 0 w) : Calls Tryz.prog 158 #[.slice sA sn sc, .func (.func 159) #[] #[cap]] w R :=
  calls_of_vc (B := bodied) (pl := f158_pl) (K := f158_K R sA sn sc cap JL0 VL0 JX0_0) follows_mixed bodied_ok Tryz.func158 (c := codeOf Tryz.f158) (by kernel_rfl) (by kernel_rfl) (fun _ _ _ _ => (by kernel_rfl))
    ((.seq (by kernel_rfl) (by kernel_rfl) (.none (by kernel_rfl)) (.seq (by kernel_rfl) (by kernel_rfl) (.seq (by kernel_rfl) (by kernel_rfl) (.none (by kernel_rfl)) (.block 0 (by kernel_rfl) (.loop (by kernel_rfl) (by
      intro e a w hr h
      cases e with
      | exit i => (replace h : if i = 0 then f158_MX0_0 sA sn sc cap JX0_0 [] a w else False := cast_of (by kernel_rfl) h); (refine ite_elim h (fun hi h => by subst hi; exact f158_MX0_0.el (sA := sA) (sn := sn) (sc := sc) (cap := cap) (C := fun a w => (_ : Exit → Env → World → Prop) (.exit 0) ⟨a, []⟩ w) h fun ds hJ => cast_of (by kernel_rfl) (exit0_0 w hJ)) (fun _ h => ?_); exact h.elim)
      | ret => exact absurd rfl hr
      | _ => exact (cast_of (q := False) (by kernel_rfl) h).elim)
      (fun _ _ h => cast_of (by kernel_rfl) h)
      (fun _ _ _ h => cast_of (by kernel_rfl) h)
      (fun m2 a w h => f158_I0.el (sA := sA) (sn := sn) (sc := sc) (cap := cap) (C := fun a w => (f158_K R sA sn sc cap JL0 VL0 JX0_0).var [] 0 a w = m2 → vcE Tryz.prog bodied f158_pl (f158_K R sA sn sc cap JL0 VL0 JX0_0) (m2 :: []) 0 _ _ ⟨a, []⟩ w) (cast_of (q := f158_I0 sA sn sc cap JL0 [] a w) (by kernel_rfl) h) fun ds x_8 hJ hm => cast_of (by kernel_rfl) (round0 x_8 w m2 hJ (cast_of (by kernel_rfl) hm)))
      (fun m2 => (.none (by kernel_rfl)))))) (.none (by kernel_rfl)))))
    (cast_of (by kernel_rfl) entry)

/- (*heavykeys/arena.Arena).Fit$1 -/
def f159_K (R : Ending → World → Prop) (ccs : Array Value) (f0b : Nat) : Ann where
  inv := fun g b a w => False
  out := fun g b e a w => match e with | .exit i => False | .ret => RetQ Tryz.prog Tryz.f159 R .ret a w | _ => False
  var := fun g b a w => 0
  after := fun r => none
  before := fun r => none
def f159_pl : Plans := fun | _ => (.done, [])
theorem f159_vc {R : Ending → World → Prop} {ccs : Array Value} {f0b : Nat} {w : World}
    (entry : AllocQ w 104 ccs fun b1 w2 => ∃ n3 : Int, w2.cell? ⟨b1, 0, none⟩ = some (.int .i64 n3) ∧ ∃ n4 : Int, w2.cell? ⟨f0b, 0, none⟩ = some (.int .i64 n4) ∧ R (.returned (.bool (decide (n3 ≥ n4)))) w2) : Calls Tryz.prog 159 #[.agg ccs, .pointer (some ⟨f0b, 0, none⟩)] w R :=
  calls_of_vc (B := bodied) (pl := f159_pl) (K := f159_K R ccs f0b) follows_mixed bodied_ok Tryz.func159 (c := codeOf Tryz.f159) (by kernel_rfl) (by kernel_rfl) (fun _ _ _ _ => (by kernel_rfl))
    ((.none (by kernel_rfl)))
    (cast_of (by kernel_rfl) entry)

/- (*heavykeys/arena.Arena).Alloc -/
def f51_MB12 (a_b : Nat) (size : Int) (JB12 : List Nat → Nat → Int → Option Addr → Int → World → Prop) (g : List Nat) (a : Act) (w : World) : Prop := sizeS 110 a (blkS (a.tmps.getD 4 undef) fun x_4b => intS .i64 (a.tmps.getD 6 undef) fun i_6 => ptrS (a.tmps.getD 8 undef) fun c_8p => intS .i64 (a.tmps.getD 9 undef) fun at_9 => JB12 g x_4b i_6 c_8p at_9 w)
theorem f51_MB12.el {a_b : Nat} {size : Int} {JB12 : List Nat → Nat → Int → Option Addr → Int → World → Prop} {g : List Nat} {a : Act} {w : World} {C : Act → World → Prop} (h : f51_MB12 a_b size JB12 g a w) (H : ∀ (ds : Nat → Value) (x_4b : Nat) (i_6 : Int) (c_8p : Option Addr) (at_9 : Int), JB12 g x_4b i_6 c_8p at_9 w → C (frameD ds 110 [(4, .pointer (some ⟨x_4b, 0, none⟩)), (6, .int .i64 i_6), (8, .pointer c_8p), (9, .int .i64 at_9)]) w) : C a w :=
  have h := sizeS.out h; have hs := h.1; have h := h.2; Exists.elim (blkS.out h) fun x_4b h => have q4 := h.1; have h := h.2; Exists.elim (intS.out h) fun i_6 h => have q6 := h.1; have h := h.2; Exists.elim (ptrS.out h) fun c_8p h => have q8 := h.1; have h := h.2; Exists.elim (intS.out h) fun at_9 h => have q9 := h.1; have h := h.2; el_of (l := [(4, .pointer (some ⟨x_4b, 0, none⟩)), (6, .int .i64 i_6), (8, .pointer c_8p), (9, .int .i64 at_9)]) hs (⟨q4, q6, q8, q9, trivial⟩) (H _ x_4b i_6 c_8p at_9 h)
def f51_K (R : Ending → World → Prop) (a_b : Nat) (size : Int) (JB12 : List Nat → Nat → Int → Option Addr → Int → World → Prop) : Ann where
  inv := fun g b a w => False
  out := fun g b e a w => match e with | .exit i => False | .ret => RetQ Tryz.prog Tryz.f51 R .ret a w | _ => False
  var := fun g b a w => 0
  after := fun r => none
  before := fun r => if r = 12 then some (f51_MB12 a_b size JB12) else none
def f51_pl : Plans := fun | 8 => (.val 0 <| .val 1 <| .val 2 <| .val 3 <| .val 4 <| .val 6 <| .val 10 <| .val 11 <| .ld 5 [[13]] <| .val 7 <| .val 8 <| .ld 9 [[13]] <| .val 12 <| .eff 13 <| .done, [13]) | 9 => (.val 0 <| .val 1 <| .val 2 <| .val 5 <| .val 6 <| .val 7 <| .val 8 <| .ld 3 [] <| .val 4 <| .ld 9 [] <| .val 10 <| .val 11 <| .done, []) | _ => (.done, [])
theorem f51_vc {R : Ending → World → Prop} {a_b : Nat} {size : Int} {w : World} (JB12 : List Nat → Nat → Int → Option Addr → Int → World → Prop)
    (before12 : ∀ (x_4b : Nat) (i_6 : Int) (c_8p : Option Addr) (at_9 : Int) (w26 : World), JB12 [] x_4b i_6 c_8p at_9 w26 → optQ c_8p fun a27 => ∃ (A28 : Option Addr) (m28 c28 : Nat), w26.cell? (Addr.add a27 2) = some (.slice A28 m28 c28) ∧ (0 ≤ at_9 ∧ at_9 < ((m28 : Nat) : Int)) ∧ optQ A28 fun a29 => ∃ n30 : Int, w26.cell? (Addr.add a29 (Int.toNat at_9 * 4)) = some (.int .i64 n30) ∧ StoreQ w26 (Addr.add a29 (Int.toNat at_9 * 4)) [.int .i64 (IntKind.wrap .i64 (n30 + 1))] fun w31 => StoreQ w31 (Addr.add (Addr.add a29 (Int.toNat at_9 * 4)) 1) [.bool true] fun w32 => StoreQ w32 (Addr.add (Addr.add a29 (Int.toNat at_9 * 4)) 3) [.slice none 0 0] fun w33 => optQ c_8p fun a34 => ∃ n35 : Int, w33.cell? (Addr.add a34 3) = some (.int .i64 n35) ∧ optQ c_8p fun a36 => StoreQ w33 (Addr.add a36 3) [.int .i64 (IntKind.wrap .i64 (n35 + 1))] fun w37 => ∃ n38 : Int, w37.cell? (Addr.add a29 (Int.toNat at_9 * 4)) = some (.int .i64 n38) ∧ (#[.int .i64 i_6, .int .i64 at_9, .int .i64 n38] : Array Value).size = 3 ∧ StoreQ w37 ⟨x_4b, 0, none⟩ [.int .i64 i_6, .int .i64 at_9, .int .i64 n38] fun w39 => ∃ cs40 : Array Value, LoadsA w39 ⟨x_4b, 0, none⟩ 3 cs40 ∧ R (.returned (.tuple #[.agg cs40, .int .i64 0])) w39)
    (entry : AllocQ w 123 #[.int .i64 0, .int .i64 0, .int .i64 0] fun b1 w2 => Calls Tryz.prog 97 #[.pointer (some ⟨a_b, 0, none⟩), .int .i64 size] w2 fun e3 w4 => ∃ n5 : Int, ∃ n6 : Int, e3 = .returned (.tuple #[.int .i64 n5, .int .i64 n6]) ∧ CondQ (n6 != 0) ((#[.int .i64 0, .int .i64 0, .int .i64 0] : Array Value).size = 3 ∧ StoreQ w4 ⟨b1, 0, none⟩ [.int .i64 0, .int .i64 0, .int .i64 0] fun w7 => ∃ cs8 : Array Value, LoadsA w7 ⟨b1, 0, none⟩ 3 cs8 ∧ R (.returned (.tuple #[.agg cs8, .int .i64 n6])) w7) (∃ (A9 : Option Addr) (m9 c9 : Nat), w4.cell? ⟨a_b, 0, none⟩ = some (.slice A9 m9 c9) ∧ (0 ≤ n5 ∧ n5 < ((m9 : Nat) : Int)) ∧ optQ A9 fun a10 => (0 ≤ n5 ∧ n5 < ((8 : Nat) : Int)) ∧ ∃ n11 : Int, w4.cell? (Addr.add (⟨a_b, 1, none⟩ : Addr) (Int.toNat n5 * 1)) = some (.int .i64 n11) ∧ CondQ (n11 != (-1)) (∃ (A12 : Option Addr) (m12 c12 : Nat), w4.drew.cell? (Addr.add (Addr.add a10 (Int.toNat n5 * 4)) 2) = some (.slice A12 m12 c12) ∧ (0 ≤ n11 ∧ n11 < ((m12 : Nat) : Int)) ∧ optQ A12 fun a13 => ∃ n14 : Int, w4.drew.cell? (Addr.add (Addr.add a13 (Int.toNat n11 * 4)) 2) = some (.int .i64 n14) ∧ (0 ≤ n5 ∧ n5 < ((8 : Nat) : Int)) ∧ StoreQ w4.drew (Addr.add (⟨a_b, 1, none⟩ : Addr) (Int.toNat n5 * 1)) [.int .i64 n14] fun w15 => JB12 [] b1 n5 (some (Addr.add a10 (Int.toNat n5 * 4))) n11 w15) (∃ (A16 : Option Addr) (m16 c16 : Nat), w4.drew.cell? (Addr.add (Addr.add a10 (Int.toNat n5 * 4)) 2) = some (.slice A16 m16 c16) ∧ ∃ n17 : Int, w4.drew.cell? (Addr.add (Addr.add a10 (Int.toNat n5 * 4)) 1) = some (.int .i64 n17) ∧ CondQ (decide (((m16 : Nat) : Int) < n17)) (∃ (A18 : Option Addr) (m18 c18 : Nat), w4.drew.cell? (Addr.add (Addr.add a10 (Int.toNat n5 * 4)) 2) = some (.slice A18 m18 c18) ∧ ∃ (A19 : Option Addr) (m19 c19 : Nat), w4.drew.cell? (Addr.add (Addr.add a10 (Int.toNat n5 * 4)) 2) = some (.slice A19 m19 c19) ∧ (#[.int .i64 0, .bool false, .int .i64 0, .slice none 0 0] : Array Value).size = 4 ∧ AllocQ w4.drew 188 #[.int .i64 0, .bool false, .int .i64 0, .slice none 0 0] fun b20 w21 => AppQ Tryz.prog #[102, 102] 102 (.slice A19 m19 c19) (.slice (some ⟨b20, 0, none⟩) 1 1) w21 fun A22 m22 c22 w22 => StoreQ w22 (Addr.add (Addr.add a10 (Int.toNat n5 * 4)) 2) [.slice A22 m22 c22] fun w23 => JB12 [] b1 n5 (some (Addr.add a10 (Int.toNat n5 * 4))) ((m18 : Nat) : Int) w23) ((#[.int .i64 0, .int .i64 0, .int .i64 0] : Array Value).size = 3 ∧ StoreQ w4.drew ⟨b1, 0, none⟩ [.int .i64 0, .int .i64 0, .int .i64 0] fun w24 => ∃ cs25 : Array Value, LoadsA w24 ⟨b1, 0, none⟩ 3 cs25 ∧ R (.returned (.tuple #[.agg cs25, .int .i64 7])) w24)))) : Calls Tryz.prog 51 #[.pointer (some ⟨a_b, 0, none⟩), .int .i64 size] w R :=
  calls_of_vc (B := bodied) (pl := f51_pl) (K := f51_K R a_b size JB12) follows_mixed bodied_ok Tryz.func51 (c := codeOf Tryz.f51) (by kernel_rfl) (by kernel_rfl) (fun _ _ _ _ => (by kernel_rfl))
    ((.seq (by kernel_rfl) (by kernel_rfl) (.none (by kernel_rfl)) (.seq (by kernel_rfl) (by kernel_rfl) (.none (by kernel_rfl)) (.seq (by kernel_rfl) (by kernel_rfl) (.none (by kernel_rfl)) (.seq (by kernel_rfl) (by kernel_rfl) (.none (by kernel_rfl)) (.seq (by kernel_rfl) (by kernel_rfl) (.none (by kernel_rfl)) (.cut (f51_MB12 a_b size JB12) (by kernel_rfl) (by kernel_rfl) (fun a w h => f51_MB12.el (a_b := a_b) (size := size) (C := fun a w => vcE Tryz.prog bodied f51_pl (f51_K R a_b size JB12) [] 0 _ _ ⟨a, []⟩ w) h fun ds x_4b i_6 c_8p at_9 hJ => cast_of (by kernel_rfl) (before12 x_4b i_6 c_8p at_9 w hJ)) (.none (by kernel_rfl)) (.none (by kernel_rfl)))))))))
    (cast_of (by kernel_rfl) entry)

/- (*heavykeys/arena.Arena).find -/
def f157_MA3 (a_b : Nat) (h_cs : Array Value) (JA3 : List Nat → Nat → Bool → World → Prop) (g : List Nat) (a : Act) (w : World) : Prop := sizeS 73 a (blkS (a.tmps.getD 3 undef) fun h_3b => boolS (a.tmps.getD 23 undef) fun x_23 => a.tmps.getD 0 undef = (.pointer (some ⟨a_b, 0, none⟩) : Value) ∧ JA3 g h_3b x_23 w)
theorem f157_MA3.el {a_b : Nat} {h_cs : Array Value} {JA3 : List Nat → Nat → Bool → World → Prop} {g : List Nat} {a : Act} {w : World} {C : Act → World → Prop} (h : f157_MA3 a_b h_cs JA3 g a w) (H : ∀ (ds : Nat → Value) (h_3b : Nat) (x_23 : Bool), JA3 g h_3b x_23 w → C (frameD ds 73 [(0, .pointer (some ⟨a_b, 0, none⟩)), (3, .pointer (some ⟨h_3b, 0, none⟩)), (23, .bool x_23)]) w) : C a w :=
  have h := sizeS.out h; have hs := h.1; have h := h.2; Exists.elim (blkS.out h) fun h_3b h => have q3 := h.1; have h := h.2; Exists.elim (boolS.out h) fun x_23 h => have q23 := h.1; have h := h.2; have q0 := h.1; have h := h.2; el_of (l := [(0, .pointer (some ⟨a_b, 0, none⟩)), (3, .pointer (some ⟨h_3b, 0, none⟩)), (23, .bool x_23)]) hs (⟨q0, q3, q23, trivial⟩) (H _ h_3b x_23 h)
def f157_MA5 (a_b : Nat) (h_cs : Array Value) (JA5 : List Nat → Nat → Option Addr → Bool → World → Prop) (g : List Nat) (a : Act) (w : World) : Prop := sizeS 73 a (blkS (a.tmps.getD 3 undef) fun h_3b => ptrS (a.tmps.getD 7 undef) fun c_7p => boolS (a.tmps.getD 43 undef) fun x_43 => a.tmps.getD 0 undef = (.pointer (some ⟨a_b, 0, none⟩) : Value) ∧ JA5 g h_3b c_7p x_43 w)
theorem f157_MA5.el {a_b : Nat} {h_cs : Array Value} {JA5 : List Nat → Nat → Option Addr → Bool → World → Prop} {g : List Nat} {a : Act} {w : World} {C : Act → World → Prop} (h : f157_MA5 a_b h_cs JA5 g a w) (H : ∀ (ds : Nat → Value) (h_3b : Nat) (c_7p : Option Addr) (x_43 : Bool), JA5 g h_3b c_7p x_43 w → C (frameD ds 73 [(0, .pointer (some ⟨a_b, 0, none⟩)), (3, .pointer (some ⟨h_3b, 0, none⟩)), (7, .pointer c_7p), (43, .bool x_43)]) w) : C a w :=
  have h := sizeS.out h; have hs := h.1; have h := h.2; Exists.elim (blkS.out h) fun h_3b h => have q3 := h.1; have h := h.2; Exists.elim (ptrS.out h) fun c_7p h => have q7 := h.1; have h := h.2; Exists.elim (boolS.out h) fun x_43 h => have q43 := h.1; have h := h.2; have q0 := h.1; have h := h.2; el_of (l := [(0, .pointer (some ⟨a_b, 0, none⟩)), (3, .pointer (some ⟨h_3b, 0, none⟩)), (7, .pointer c_7p), (43, .bool x_43)]) hs (⟨q0, q3, q7, q43, trivial⟩) (H _ h_3b c_7p x_43 h)
def f157_MB9 (a_b : Nat) (h_cs : Array Value) (JB9 : List Nat → World → Prop) (g : List Nat) (a : Act) (w : World) : Prop := sizeS 73 a (a.tmps.getD 0 undef = (.pointer (some ⟨a_b, 0, none⟩) : Value) ∧ JB9 g w)
theorem f157_MB9.el {a_b : Nat} {h_cs : Array Value} {JB9 : List Nat → World → Prop} {g : List Nat} {a : Act} {w : World} {C : Act → World → Prop} (h : f157_MB9 a_b h_cs JB9 g a w) (H : ∀ (ds : Nat → Value), JB9 g w → C (frameD ds 73 [(0, .pointer (some ⟨a_b, 0, none⟩))]) w) : C a w :=
  have h := sizeS.out h; have hs := h.1; have h := h.2; have q0 := h.1; have h := h.2; el_of (l := [(0, .pointer (some ⟨a_b, 0, none⟩))]) hs (⟨q0, trivial⟩) (H _ h)
def f157_K (R : Ending → World → Prop) (a_b : Nat) (h_cs : Array Value) (JA3 : List Nat → Nat → Bool → World → Prop) (JA5 : List Nat → Nat → Option Addr → Bool → World → Prop) (JB9 : List Nat → World → Prop) : Ann where
  inv := fun g b a w => False
  out := fun g b e a w => match e with | .exit i => False | .ret => RetQ Tryz.prog Tryz.f157 R .ret a w | _ => False
  var := fun g b a w => 0
  after := fun r => if r = 3 then some (f157_MA3 a_b h_cs JA3) else if r = 5 then some (f157_MA5 a_b h_cs JA5) else none
  before := fun r => if r = 9 then some (f157_MB9 a_b h_cs JB9) else none
def f157_pl : Plans := fun | 3 => (.val 0 <| .ld 1 [] <| .val 2 <| .val 3 <| .val 4 <| .val 6 <| .val 7 <| .val 8 <| .ld 5 [] <| .ld 9 [] <| .val 10 <| .val 11 <| .val 12 <| .done, []) | 4 => (.val 0 <| .val 1 <| .val 2 <| .val 4 <| .ld 3 [] <| .ld 5 [] <| .val 6 <| .val 7 <| .done, []) | 5 => (.val 0 <| .ld 1 [] <| .val 2 <| .val 3 <| .val 4 <| .val 6 <| .val 7 <| .val 8 <| .ld 5 [] <| .ld 9 [] <| .val 10 <| .val 11 <| .val 12 <| .done, []) | 6 => (.val 0 <| .val 1 <| .val 2 <| .val 4 <| .ld 3 [] <| .ld 5 [] <| .val 6 <| .val 7 <| .done, []) | 7 => (.val 0 <| .val 1 <| .val 2 <| .ld 3 [] <| .val 4 <| .val 5 <| .val 6 <| .val 7 <| .val 9 <| .ld 8 [] <| .ld 10 [] <| .val 11 <| .val 12 <| .done, []) | _ => (.done, [])
theorem f157_vc {R : Ending → World → Prop} {a_b : Nat} {h_cs : Array Value} {w : World} (JA3 : List Nat → Nat → Bool → World → Prop) (JA5 : List Nat → Nat → Option Addr → Bool → World → Prop) (JB9 : List Nat → World → Prop)
    (after3 : ∀ (h_3b : Nat) (x_23 : Bool) (w6 : World), JA3 [] h_3b x_23 w6 → CondQ x_23 (∃ (A7 : Option Addr) (m7 c7 : Nat), w6.drew.cell? ⟨a_b, 0, none⟩ = some (.slice A7 m7 c7) ∧ ∃ n8 : Int, w6.drew.cell? ⟨h_3b, 0, none⟩ = some (.int .i64 n8) ∧ (0 ≤ n8 ∧ n8 < ((m7 : Nat) : Int)) ∧ optQ A7 fun a9 => ∃ n10 : Int, w6.drew.drew.cell? ⟨h_3b, 1, none⟩ = some (.int .i64 n10) ∧ CondQ (decide (n10 ≥ 0)) (∃ n11 : Int, w6.drew.drew.cell? ⟨h_3b, 1, none⟩ = some (.int .i64 n11) ∧ ∃ (A12 : Option Addr) (m12 c12 : Nat), w6.drew.drew.cell? (Addr.add (Addr.add a9 (Int.toNat n8 * 4)) 2) = some (.slice A12 m12 c12) ∧ (.pointer (some ⟨a_b, 0, none⟩) : Value) = .pointer (some ⟨a_b, 0, none⟩) ∧ JA5 [] h_3b (some (Addr.add a9 (Int.toNat n8 * 4))) (decide (n11 < ((m12 : Nat) : Int))) w6.drew.drew) ((.pointer (some ⟨a_b, 0, none⟩) : Value) = .pointer (some ⟨a_b, 0, none⟩) ∧ JA5 [] h_3b (some (Addr.add a9 (Int.toNat n8 * 4))) false w6.drew.drew)) ((.pointer (some ⟨a_b, 0, none⟩) : Value) = .pointer (some ⟨a_b, 0, none⟩) ∧ JB9 [] w6))
    (after5 : ∀ (h_3b : Nat) (c_7p : Option Addr) (x_43 : Bool) (w13 : World), JA5 [] h_3b c_7p x_43 w13 → CondQ x_43 (optQ c_7p fun a14 => ∃ (A15 : Option Addr) (m15 c15 : Nat), w13.drew.cell? (Addr.add a14 2) = some (.slice A15 m15 c15) ∧ ∃ n16 : Int, w13.drew.cell? ⟨h_3b, 1, none⟩ = some (.int .i64 n16) ∧ (0 ≤ n16 ∧ n16 < ((m15 : Nat) : Int)) ∧ optQ A15 fun a17 => ∃ b18 : Bool, w13.drew.drew.cell? (Addr.add (Addr.add a17 (Int.toNat n16 * 4)) 1) = some (.bool b18) ∧ CondQ b18 (∃ n19 : Int, w13.drew.drew.cell? (Addr.add a17 (Int.toNat n16 * 4)) = some (.int .i64 n19) ∧ ∃ n20 : Int, w13.drew.drew.cell? ⟨h_3b, 2, none⟩ = some (.int .i64 n20) ∧ CondQ (n19 == n20) (R (.returned (.tuple #[.pointer c_7p, .pointer (some (Addr.add a17 (Int.toNat n16 * 4))), .int .i64 0])) w13.drew.drew) ((.pointer (some ⟨a_b, 0, none⟩) : Value) = .pointer (some ⟨a_b, 0, none⟩) ∧ JB9 [] w13.drew.drew)) ((.pointer (some ⟨a_b, 0, none⟩) : Value) = .pointer (some ⟨a_b, 0, none⟩) ∧ JB9 [] w13.drew.drew)) ((.pointer (some ⟨a_b, 0, none⟩) : Value) = .pointer (some ⟨a_b, 0, none⟩) ∧ JB9 [] w13))
    (before9 : ∀ (w21 : World), JB9 [] w21 → ∃ n22 : Int, w21.cell? ⟨a_b, 9, none⟩ = some (.int .i64 n22) ∧ StoreQ w21 ⟨a_b, 9, none⟩ [.int .i64 (IntKind.wrap .i64 (n22 + 1))] fun w23 => R (.returned (.tuple #[.pointer none, .pointer none, .int .i64 9])) w23)
    (entry : AllocQ w 123 h_cs fun b1 w2 => ∃ n3 : Int, w2.drew.cell? ⟨b1, 0, none⟩ = some (.int .i64 n3) ∧ CondQ (decide (n3 ≥ 0)) (∃ n4 : Int, w2.drew.cell? ⟨b1, 0, none⟩ = some (.int .i64 n4) ∧ ∃ (A5 : Option Addr) (m5 c5 : Nat), w2.drew.cell? ⟨a_b, 0, none⟩ = some (.slice A5 m5 c5) ∧ (.pointer (some ⟨a_b, 0, none⟩) : Value) = .pointer (some ⟨a_b, 0, none⟩) ∧ JA3 [] b1 (decide (n4 < ((m5 : Nat) : Int))) w2.drew) ((.pointer (some ⟨a_b, 0, none⟩) : Value) = .pointer (some ⟨a_b, 0, none⟩) ∧ JA3 [] b1 false w2.drew)) : Calls Tryz.prog 157 #[.pointer (some ⟨a_b, 0, none⟩), .agg h_cs] w R :=
  calls_of_vc (B := bodied) (pl := f157_pl) (K := f157_K R a_b h_cs JA3 JA5 JB9) follows_mixed bodied_ok Tryz.func157 (c := codeOf Tryz.f157) (by kernel_rfl) (by kernel_rfl) (fun _ _ _ _ => (by kernel_rfl))
    ((.seq (by kernel_rfl) (by kernel_rfl) (.none (by kernel_rfl)) (.seq (by kernel_rfl) (by kernel_rfl) (.none (by kernel_rfl)) (.cut (f157_MB9 a_b h_cs JB9) (by kernel_rfl) (by kernel_rfl) (fun a w h => f157_MB9.el (a_b := a_b) (h_cs := h_cs) (C := fun a w => vcE Tryz.prog bodied f157_pl (f157_K R a_b h_cs JA3 JA5 JB9) [] 0 _ _ ⟨a, []⟩ w) h fun ds hJ => cast_of (by kernel_rfl) (before9 w hJ)) (.cut (f157_MA3 a_b h_cs JA3) (by kernel_rfl) (by kernel_rfl) (fun a w h => f157_MA3.el (a_b := a_b) (h_cs := h_cs) (C := fun a w => vcE Tryz.prog bodied f157_pl (f157_K R a_b h_cs JA3 JA5 JB9) [] 0 _ _ ⟨a, []⟩ w) h fun ds h_3b x_23 hJ => cast_of (by kernel_rfl) (after3 h_3b x_23 w hJ)) (.none (by kernel_rfl)) (.cond (.tmp 23) (by kernel_rfl) (.seq (by kernel_rfl) (by kernel_rfl) (.none (by kernel_rfl)) (.cut (f157_MA5 a_b h_cs JA5) (by kernel_rfl) (by kernel_rfl) (fun a w h => f157_MA5.el (a_b := a_b) (h_cs := h_cs) (C := fun a w => vcE Tryz.prog bodied f157_pl (f157_K R a_b h_cs JA3 JA5 JB9) [] 0 _ _ ⟨a, []⟩ w) h fun ds h_3b c_7p x_43 hJ => cast_of (by kernel_rfl) (after5 h_3b c_7p x_43 w hJ)) (.none (by kernel_rfl)) (.none (by kernel_rfl)))) (.none (by kernel_rfl)))) (.none (by kernel_rfl))))))
    (cast_of (by kernel_rfl) entry)

/- (*heavykeys/arena.Arena).Free -/
def f95_K (R : Ending → World → Prop) (a_b : Nat) (h_cs : Array Value) : Ann where
  inv := fun g b a w => False
  out := fun g b e a w => match e with | .exit i => False | .ret => RetQ Tryz.prog Tryz.f95 R .ret a w | _ => False
  var := fun g b a w => 0
  after := fun r => none
  before := fun r => none
def f95_pl : Plans := fun | 4 => (.val 0 <| .val 1 <| .val 2 <| .val 3 <| .val 4 <| .val 6 <| .val 7 <| .ld 5 [[8, 9, 12], [8, 9, 15], [18]] <| .val 8 <| .ld 9 [[12], [15], [18]] <| .val 10 <| .val 11 <| .eff 12 <| .val 13 <| .val 14 <| .eff 15 <| .val 16 <| .val 17 <| .eff 18 <| .done, [12, 15, 18]) | 5 => (.val 0 <| .val 1 <| .val 3 <| .val 5 <| .val 6 <| .ld 2 [[8]] <| .ld 4 [[8]] <| .val 7 <| .eff 8 <| .done, [8]) | _ => (.done, [])
theorem f95_vc {R : Ending → World → Prop} {a_b : Nat} {h_cs : Array Value} {w : World}
    (entry : AllocQ w 123 h_cs fun b1 w2 => ∃ cs3 : Array Value, LoadsA w2 ⟨b1, 0, none⟩ 3 cs3 ∧ Calls Tryz.prog 157 #[.pointer (some ⟨a_b, 0, none⟩), .agg cs3] w2 fun e4 w5 => ∃ p6 : Option Addr, ∃ p7 : Option Addr, ∃ n8 : Int, e4 = .returned (.tuple #[.pointer p6, .pointer p7, .int .i64 n8]) ∧ CondQ (n8 != 0) (R (.returned (.int .i64 n8)) w5) (∃ n9 : Int, w5.drew.cell? ⟨b1, 0, none⟩ = some (.int .i64 n9) ∧ (0 ≤ n9 ∧ n9 < ((8 : Nat) : Int)) ∧ ∃ n10 : Int, w5.drew.cell? (Addr.add (⟨a_b, 1, none⟩ : Addr) (Int.toNat n9 * 1)) = some (.int .i64 n10) ∧ optQ p7 fun a11 => StoreQ w5.drew (Addr.add a11 1) [.bool false] fun w12 => optQ p7 fun a13 => StoreQ w12 (Addr.add a13 3) [.slice none 0 0] fun w14 => optQ p7 fun a15 => StoreQ w14 (Addr.add a15 2) [.int .i64 n10] fun w16 => ∃ n17 : Int, w16.drew.cell? ⟨b1, 0, none⟩ = some (.int .i64 n17) ∧ ∃ n18 : Int, w16.drew.cell? ⟨b1, 1, none⟩ = some (.int .i64 n18) ∧ (0 ≤ n17 ∧ n17 < ((8 : Nat) : Int)) ∧ StoreQ w16.drew (Addr.add (⟨a_b, 1, none⟩ : Addr) (Int.toNat n17 * 1)) [.int .i64 n18] fun w19 => optQ p6 fun a20 => ∃ n21 : Int, w19.cell? (Addr.add a20 3) = some (.int .i64 n21) ∧ optQ p6 fun a22 => StoreQ w19 (Addr.add a22 3) [.int .i64 (IntKind.wrap .i64 (n21 - 1))] fun w23 => R (.returned (.int .i64 0)) w23)) : Calls Tryz.prog 95 #[.pointer (some ⟨a_b, 0, none⟩), .agg h_cs] w R :=
  calls_of_vc (B := bodied) (pl := f95_pl) (K := f95_K R a_b h_cs) follows_mixed bodied_ok Tryz.func95 (c := codeOf Tryz.f95) (by kernel_rfl) (by kernel_rfl) (fun _ _ _ _ => (by kernel_rfl))
    ((.none (by kernel_rfl)))
    (cast_of (by kernel_rfl) entry)

/- (*heavykeys/arena.Arena).Write -/
def f160_K (R : Ending → World → Prop) (a_b : Nat) (h_cs : Array Value) (b_A : Option Addr) (b_n b_c : Nat) : Ann where
  inv := fun g b a w => False
  out := fun g b e a w => match e with | .exit i => False | .ret => RetQ Tryz.prog Tryz.f160 R .ret a w | _ => False
  var := fun g b a w => 0
  after := fun r => none
  before := fun r => none
def f160_pl : Plans := fun | _ => (.done, [])
theorem f160_vc {R : Ending → World → Prop} {a_b : Nat} {h_cs : Array Value} {b_A : Option Addr} {b_n b_c : Nat} {w : World}
    (entry : AllocQ w 123 h_cs fun b1 w2 => ∃ cs3 : Array Value, LoadsA w2 ⟨b1, 0, none⟩ 3 cs3 ∧ Calls Tryz.prog 157 #[.pointer (some ⟨a_b, 0, none⟩), .agg cs3] w2 fun e4 w5 => ∃ p6 : Option Addr, ∃ p7 : Option Addr, ∃ n8 : Int, e4 = .returned (.tuple #[.pointer p6, .pointer p7, .int .i64 n8]) ∧ CondQ (n8 != 0) (R (.returned (.int .i64 n8)) w5) (optQ p6 fun a9 => ∃ n10 : Int, w5.cell? a9 = some (.int .i64 n10) ∧ CondQ (decide (((b_n : Nat) : Int) > n10)) (R (.returned (.int .i64 4)) w5) (AllocQ w5 5 #[] fun b11 w12 => AppQ Tryz.prog #[23, 23] 23 (.slice (some ⟨b11, 0, none⟩) 0 0) (.slice b_A b_n b_c) w12 fun A13 m13 c13 w13 => optQ p7 fun a14 => StoreQ w13 (Addr.add a14 3) [.slice A13 m13 c13] fun w15 => R (.returned (.int .i64 0)) w15))) : Calls Tryz.prog 160 #[.pointer (some ⟨a_b, 0, none⟩), .agg h_cs, .slice b_A b_n b_c] w R :=
  calls_of_vc (B := bodied) (pl := f160_pl) (K := f160_K R a_b h_cs b_A b_n b_c) follows_mixed bodied_ok Tryz.func160 (c := codeOf Tryz.f160) (by kernel_rfl) (by kernel_rfl) (fun _ _ _ _ => (by kernel_rfl))
    ((.none (by kernel_rfl)))
    (cast_of (by kernel_rfl) entry)

/- (*heavykeys/arena.Arena).Read -/
def f190_K (R : Ending → World → Prop) (a_b : Nat) (h_cs : Array Value) : Ann where
  inv := fun g b a w => False
  out := fun g b e a w => match e with | .exit i => False | .ret => RetQ Tryz.prog Tryz.f190 R .ret a w | _ => False
  var := fun g b a w => 0
  after := fun r => none
  before := fun r => none
def f190_pl : Plans := fun | _ => (.done, [])
theorem f190_vc {R : Ending → World → Prop} {a_b : Nat} {h_cs : Array Value} {w : World}
    (entry : AllocQ w 123 h_cs fun b1 w2 => ∃ cs3 : Array Value, LoadsA w2 ⟨b1, 0, none⟩ 3 cs3 ∧ Calls Tryz.prog 157 #[.pointer (some ⟨a_b, 0, none⟩), .agg cs3] w2 fun e4 w5 => ∃ p6 : Option Addr, ∃ p7 : Option Addr, ∃ n8 : Int, e4 = .returned (.tuple #[.pointer p6, .pointer p7, .int .i64 n8]) ∧ CondQ (n8 != 0) (R (.returned (.tuple #[.slice none 0 0, .int .i64 n8])) w5) (AllocQ w5 5 #[] fun b9 w10 => optQ p7 fun a11 => ∃ (A12 : Option Addr) (m12 c12 : Nat), w10.cell? (Addr.add a11 3) = some (.slice A12 m12 c12) ∧ AppQ Tryz.prog #[23, 23] 23 (.slice (some ⟨b9, 0, none⟩) 0 0) (.slice A12 m12 c12) w10 fun A13 m13 c13 w13 => R (.returned (.tuple #[.slice A13 m13 c13, .int .i64 0])) w13)) : Calls Tryz.prog 190 #[.pointer (some ⟨a_b, 0, none⟩), .agg h_cs] w R :=
  calls_of_vc (B := bodied) (pl := f190_pl) (K := f190_K R a_b h_cs) follows_mixed bodied_ok Tryz.func190 (c := codeOf Tryz.f190) (by kernel_rfl) (by kernel_rfl) (fun _ _ _ _ => (by kernel_rfl))
    ((.none (by kernel_rfl)))
    (cast_of (by kernel_rfl) entry)

/- (*heavykeys/pool.Pool).free -/
def f161_I0 (pb : Nat) (JL0 : List Nat → Int → World → Prop) (g : List Nat) (a : Act) (w : World) : Prop := sizeS 39 a (intS .i64 (a.tmps.getD 3 undef) fun id_3 => a.tmps.getD 0 undef = (.pointer (some ⟨pb, 0, none⟩) : Value) ∧ JL0 g id_3 w)
theorem f161_I0.el {pb : Nat} {JL0 : List Nat → Int → World → Prop} {g : List Nat} {a : Act} {w : World} {C : Act → World → Prop} (h : f161_I0 pb JL0 g a w) (H : ∀ (ds : Nat → Value) (id_3 : Int), JL0 g id_3 w → C (frameD ds 39 [(0, .pointer (some ⟨pb, 0, none⟩)), (3, .int .i64 id_3)]) w) : C a w :=
  have h := sizeS.out h; have hs := h.1; have h := h.2; Exists.elim (intS.out h) fun id_3 h => have q3 := h.1; have h := h.2; have q0 := h.1; have h := h.2; el_of (l := [(0, .pointer (some ⟨pb, 0, none⟩)), (3, .int .i64 id_3)]) hs (⟨q0, q3, trivial⟩) (H _ id_3 h)
def f161_MX0_0 (pb : Nat) (JX0_0 : List Nat → World → Prop) (g : List Nat) (a : Act) (w : World) : Prop := sizeS 39 a (a.tmps.getD 0 undef = (.pointer (some ⟨pb, 0, none⟩) : Value) ∧ JX0_0 g w)
theorem f161_MX0_0.el {pb : Nat} {JX0_0 : List Nat → World → Prop} {g : List Nat} {a : Act} {w : World} {C : Act → World → Prop} (h : f161_MX0_0 pb JX0_0 g a w) (H : ∀ (ds : Nat → Value), JX0_0 g w → C (frameD ds 39 [(0, .pointer (some ⟨pb, 0, none⟩))]) w) : C a w :=
  have h := sizeS.out h; have hs := h.1; have h := h.2; have q0 := h.1; have h := h.2; el_of (l := [(0, .pointer (some ⟨pb, 0, none⟩))]) hs (⟨q0, trivial⟩) (H _ h)
def f161_K (R : Ending → World → Prop) (pb : Nat) (JL0 : List Nat → Int → World → Prop) (VL0 : List Nat → Int → World → Nat) (JX0_0 : List Nat → World → Prop) : Ann where
  inv := fun g b a w => if b = 0 then f161_I0 pb JL0 g a w else False
  out := fun g b e a w => match e with | .exit i => if b = 0 then (if i = 0 then f161_MX0_0 pb JX0_0 g a w else False) else False | .ret => RetQ Tryz.prog Tryz.f161 R .ret a w | _ => False
  var := fun g b a w => if b = 0 then VL0 g (slotI a 3) w else 0
  after := fun r => none
  before := fun r => none
def f161_pl : Plans := fun | _ => (.done, [])
theorem f161_vc {R : Ending → World → Prop} {pb : Nat} {w : World} (JL0 : List Nat → Int → World → Prop) (VL0 : List Nat → Int → World → Nat) (JX0_0 : List Nat → World → Prop)
    (round0 : ∀ (id_3 : Int) (w1 : World) (m2 : Nat), JL0 [] id_3 w1 → VL0 [] id_3 w1 = m2 → ∃ (A3 : Option Addr) (m3 c3 : Nat), w1.cell? ⟨pb, 2, none⟩ = some (.slice A3 m3 c3) ∧ CondQ (decide (id_3 < ((m3 : Nat) : Int))) (∃ (A4 : Option Addr) (m4 c4 : Nat), w1.cell? ⟨pb, 2, none⟩ = some (.slice A4 m4 c4) ∧ (0 ≤ id_3 ∧ id_3 < ((m4 : Nat) : Int)) ∧ optQ A4 fun a5 => ∃ n6 : Int, w1.cell? (Addr.add (Addr.add a5 (Int.toNat id_3 * 4)) 3) = some (.int .i64 n6) ∧ CondQ (n6 == 0) (R (.returned (.int .i64 id_3)) w1) (((.pointer (some ⟨pb, 0, none⟩) : Value) = .pointer (some ⟨pb, 0, none⟩) ∧ JL0 [] (IntKind.wrap .i64 (id_3 + 1)) w1) ∧ VL0 [] (IntKind.wrap .i64 (id_3 + 1)) w1 < m2)) ((.pointer (some ⟨pb, 0, none⟩) : Value) = .pointer (some ⟨pb, 0, none⟩) ∧ JX0_0 [] w1))
    (exit0_0 : ∀ (w7 : World), JX0_0 [] w7 → ∃ (A8 : Option Addr) (m8 c8 : Nat), w7.cell? ⟨pb, 2, none⟩ = some (.slice A8 m8 c8) ∧ (#[.int .i64 0, .int .i64 0, .int .i64 0, .int .i64 0] : Array Value).size = 4 ∧ AllocQ w7 264 #[.int .i64 0, .int .i64 0, .int .i64 0, .int .i64 0] fun b9 w10 => AppQ Tryz.prog #[105, 105] 105 (.slice A8 m8 c8) (.slice (some ⟨b9, 0, none⟩) 1 1) w10 fun A11 m11 c11 w11 => StoreQ w11 ⟨pb, 2, none⟩ [.slice A11 m11 c11] fun w12 => ∃ (A13 : Option Addr) (m13 c13 : Nat), w12.cell? ⟨pb, 2, none⟩ = some (.slice A13 m13 c13) ∧ R (.returned (.int .i64 (IntKind.wrap .i64 (((m13 : Nat) : Int) - 1)))) w12)
    (entry : (.pointer (some ⟨pb, 0, none⟩) : Value) = .pointer (some ⟨pb, 0, none⟩) ∧ JL0 [] 1 w) : Calls Tryz.prog 161 #[.pointer (some ⟨pb, 0, none⟩)] w R :=
  calls_of_vc (B := bodied) (pl := f161_pl) (K := f161_K R pb JL0 VL0 JX0_0) follows_mixed bodied_ok Tryz.func161 (c := codeOf Tryz.f161) (by kernel_rfl) (by kernel_rfl) (fun _ _ _ _ => (by kernel_rfl))
    ((.seq (by kernel_rfl) (by kernel_rfl) (.none (by kernel_rfl)) (.seq (by kernel_rfl) (by kernel_rfl) (.seq (by kernel_rfl) (by kernel_rfl) (.none (by kernel_rfl)) (.block 0 (by kernel_rfl) (.loop (by kernel_rfl) (by
      intro e a w hr h
      cases e with
      | exit i => (replace h : if i = 0 then f161_MX0_0 pb JX0_0 [] a w else False := cast_of (by kernel_rfl) h); (refine ite_elim h (fun hi h => by subst hi; exact f161_MX0_0.el (pb := pb) (C := fun a w => (_ : Exit → Env → World → Prop) (.exit 0) ⟨a, []⟩ w) h fun ds hJ => cast_of (by kernel_rfl) (exit0_0 w hJ)) (fun _ h => ?_); exact h.elim)
      | ret => exact absurd rfl hr
      | _ => exact (cast_of (q := False) (by kernel_rfl) h).elim)
      (fun _ _ h => cast_of (by kernel_rfl) h)
      (fun _ _ _ h => cast_of (by kernel_rfl) h)
      (fun m2 a w h => f161_I0.el (pb := pb) (C := fun a w => (f161_K R pb JL0 VL0 JX0_0).var [] 0 a w = m2 → vcE Tryz.prog bodied f161_pl (f161_K R pb JL0 VL0 JX0_0) (m2 :: []) 0 _ _ ⟨a, []⟩ w) (cast_of (q := f161_I0 pb JL0 [] a w) (by kernel_rfl) h) fun ds id_3 hJ hm => cast_of (by kernel_rfl) (round0 id_3 w m2 hJ (cast_of (by kernel_rfl) hm)))
      (fun m2 => (.none (by kernel_rfl)))))) (.none (by kernel_rfl)))))
    (cast_of (by kernel_rfl) entry)

/- (*heavykeys/pool.Pool).Intern -/
def f99_K (R : Ending → World → Prop) (pb : Nat) (key : ByteArray) : Ann where
  inv := fun g b a w => False
  out := fun g b e a w => match e with | .exit i => False | .ret => RetQ Tryz.prog Tryz.f99 R .ret a w | _ => False
  var := fun g b a w => 0
  after := fun r => none
  before := fun r => none
def f99_pl : Plans := fun | 11 => (.val 0 <| .val 1 <| .val 2 <| .val 5 <| .val 6 <| .val 7 <| .ld 3 [] <| .ld 4 [] <| .ld 8 [] <| .val 9 <| .done, []) | 16 => (.val 0 <| .val 1 <| .val 2 <| .val 5 <| .ld 3 [[7]] <| .ld 4 [[7]] <| .eff 6 <| .eff 7 <| .val 8 <| .done, [6, 7]) | 20 => (.val 0 <| .val 1 <| .val 2 <| .val 4 <| .ld 3 [[8]] <| .ld 5 [[8]] <| .val 6 <| .val 7 <| .eff 8 <| .done, [8]) | _ => (.done, [])
theorem f99_vc {R : Ending → World → Prop} {pb : Nat} {key : ByteArray} {w : World}
    (entry : CondQ (key.toList == (⟨#[]⟩ : ByteArray).toList) (R (.returned (.tuple #[.int .i64 0, .int .i64 3])) w) (CondQ (decide (((key.size : Nat) : Int) > 255)) (R (.returned (.tuple #[.int .i64 0, .int .i64 4])) w) (∃ r1 : Option Nat, w.cell? ⟨pb, 3, none⟩ = some (.map r1) ∧ ∃ n2 : Int, ∃ b3 : Bool, (Instr.lookup 106 (.map r1) (.string key) true).run Tryz.prog w = .ok (.tuple #[.int .i64 n2, .bool b3]) w ∧ CondQ b3 (∃ (A4 : Option Addr) (m4 c4 : Nat), w.cell? ⟨pb, 2, none⟩ = some (.slice A4 m4 c4) ∧ (0 ≤ n2 ∧ n2 < ((m4 : Nat) : Int)) ∧ optQ A4 fun a5 => ∃ n6 : Int, w.cell? (Addr.add (Addr.add a5 (Int.toNat n2 * 4)) 3) = some (.int .i64 n6) ∧ (0 ≤ n2 ∧ n2 < ((m4 : Nat) : Int)) ∧ optQ A4 fun a7 => StoreQ w (Addr.add (Addr.add a7 (Int.toNat n2 * 4)) 3) [.int .i64 (IntKind.wrap .i64 (n6 + 1))] fun w8 => R (.returned (.tuple #[.int .i64 n2, .int .i64 0])) w8) (∃ r9 : Option Nat, w.drew.cell? ⟨pb, 3, none⟩ = some (.map r9) ∧ ∃ n10 : Nat, MapLen w.drew r9 n10 ∧ ∃ n11 : Int, w.drew.cell? ⟨pb, 1, none⟩ = some (.int .i64 n11) ∧ CondQ (((n10 : Nat) : Int) == n11) (R (.returned (.tuple #[.int .i64 0, .int .i64 7])) w.drew) (∃ p12 : Option Addr, w.drew.cell? ⟨pb, 0, none⟩ = some (.pointer p12) ∧ Calls Tryz.prog 51 #[.pointer p12, .int .i64 ((key.size : Nat) : Int)] w.drew fun e13 w14 => ∃ cs15 : Array Value, ∃ n16 : Int, e13 = .returned (.tuple #[.agg cs15, .int .i64 n16]) ∧ AllocQ w14 123 #[.int .i64 0, .int .i64 0, .int .i64 0] fun b17 w18 => (cs15 : Array Value).size = 3 ∧ StoreQ w18 ⟨b17, 0, none⟩ cs15.toList fun w19 => CondQ (n16 != 0) (R (.returned (.tuple #[.int .i64 0, .int .i64 n16])) w19) (∃ p20 : Option Addr, w19.drew.cell? ⟨pb, 0, none⟩ = some (.pointer p20) ∧ ∃ cs21 : Array Value, LoadsA w19.drew ⟨b17, 0, none⟩ 3 cs21 ∧ ∃ (A23 : Option Addr) (m23 c23 : Nat), ∃ w22, (convert 9 23 (.string key)).run Tryz.prog w19.drew = .ok (.slice A23 m23 c23) w22 ∧ LoadsA w22 ⟨b17, 0, none⟩ 3 cs21 ∧ w22.cell? ⟨pb, 0, none⟩ = some (.pointer p20) ∧ Calls Tryz.prog 160 #[.pointer p20, .agg cs21, .slice A23 m23 c23] w22 fun e24 w25 => ∃ n26 : Int, e24 = .returned (.int .i64 n26) ∧ CondQ (n26 != 0) (R (.returned (.tuple #[.int .i64 0, .int .i64 n26])) w25) (Calls Tryz.prog 161 #[.pointer (some ⟨pb, 0, none⟩)] w25 fun e27 w28 => ∃ n29 : Int, e27 = .returned (.int .i64 n29) ∧ ∃ (A30 : Option Addr) (m30 c30 : Nat), w28.drew.cell? ⟨pb, 2, none⟩ = some (.slice A30 m30 c30) ∧ ∃ cs31 : Array Value, LoadsA w28.drew ⟨b17, 0, none⟩ 3 cs31 ∧ (cs31 : Array Value).size = 3 ∧ (0 ≤ n29 ∧ n29 < ((m30 : Nat) : Int)) ∧ optQ A30 fun a32 => (setL (setL #[.int .i64 0, .int .i64 0, .int .i64 0, .int .i64 0] 0 (Array.toList cs31)) 3 ([.int .i64 1]) : Array Value).size = 4 ∧ StoreQ w28.drew (Addr.add a32 (Int.toNat n29 * 4)) (setL (setL #[.int .i64 0, .int .i64 0, .int .i64 0, .int .i64 0] 0 (Array.toList cs31)) 3 ([.int .i64 1])).toList fun w33 => ∃ r34 : Option Nat, w33.cell? ⟨pb, 3, none⟩ = some (.map r34) ∧ ∃ w35, (Instr.mapUpdate 106 (.map r34) (.string key) (.int .i64 n29)).run Tryz.prog w33 = .ok () w35 ∧ R (.returned (.tuple #[.int .i64 n29, .int .i64 0])) w35))))))) : Calls Tryz.prog 99 #[.pointer (some ⟨pb, 0, none⟩), .string key] w R :=
  calls_of_vc (B := bodied) (pl := f99_pl) (K := f99_K R pb key) follows_mixed bodied_ok Tryz.func99 (c := codeOf Tryz.f99) (by kernel_rfl) (by kernel_rfl) (fun _ _ _ _ => (by kernel_rfl))
    ((.none (by kernel_rfl)))
    (cast_of (by kernel_rfl) entry)

/- (*heavykeys/pool.Pool).text -/
def f162_MB3 (pb : Nat) (id : Int) (JB3 : List Nat → World → Prop) (g : List Nat) (a : Act) (w : World) : Prop := sizeS 54 a (a.tmps.getD 0 undef = (.pointer (some ⟨pb, 0, none⟩) : Value) ∧ a.tmps.getD 1 undef = (.int .i64 id : Value) ∧ JB3 g w)
theorem f162_MB3.el {pb : Nat} {id : Int} {JB3 : List Nat → World → Prop} {g : List Nat} {a : Act} {w : World} {C : Act → World → Prop} (h : f162_MB3 pb id JB3 g a w) (H : ∀ (ds : Nat → Value), JB3 g w → C (frameD ds 54 [(0, .pointer (some ⟨pb, 0, none⟩)), (1, .int .i64 id)]) w) : C a w :=
  have h := sizeS.out h; have hs := h.1; have h := h.2; have q0 := h.1; have h := h.2; have q1 := h.1; have h := h.2; el_of (l := [(0, .pointer (some ⟨pb, 0, none⟩)), (1, .int .i64 id)]) hs (⟨q0, q1, trivial⟩) (H _ h)
def f162_K (R : Ending → World → Prop) (pb : Nat) (id : Int) (JB3 : List Nat → World → Prop) : Ann where
  inv := fun g b a w => False
  out := fun g b e a w => match e with | .exit i => False | .ret => RetQ Tryz.prog Tryz.f162 R .ret a w | _ => False
  var := fun g b a w => 0
  after := fun r => none
  before := fun r => if r = 3 then some (f162_MB3 pb id JB3) else none
def f162_pl : Plans := fun | 3 => (.val 0 <| .val 1 <| .val 2 <| .val 4 <| .val 5 <| .val 6 <| .val 8 <| .ld 3 [[12]] <| .ld 7 [[9, 10, 11, 12]] <| .val 9 <| .val 10 <| .ld 11 [[12]] <| .eff 12 <| .val 13 <| .val 14 <| .val 15 <| .val 16 <| .val 17 <| .done, [12]) | _ => (.done, [])
theorem f162_vc {R : Ending → World → Prop} {pb : Nat} {id : Int} {w : World} (JB3 : List Nat → World → Prop)
    (before3 : ∀ (w5 : World), JB3 [] w5 → ∃ p6 : Option Addr, w5.drew.cell? ⟨pb, 0, none⟩ = some (.pointer p6) ∧ ∃ (A7 : Option Addr) (m7 c7 : Nat), w5.drew.cell? ⟨pb, 2, none⟩ = some (.slice A7 m7 c7) ∧ (0 ≤ id ∧ id < ((m7 : Nat) : Int)) ∧ optQ A7 fun a8 => ∃ cs9 : Array Value, LoadsA w5.drew (Addr.add a8 (Int.toNat id * 4)) 3 cs9 ∧ Calls Tryz.prog 190 #[.pointer p6, .agg cs9] w5.drew fun e10 w11 => ∃ (A12 : Option Addr) (m12 c12 : Nat), ∃ n13 : Int, e10 = .returned (.tuple #[.slice A12 m12 c12, .int .i64 n13]) ∧ ∃ s14 : ByteArray, (convert 23 9 (.slice A12 m12 c12)).run Tryz.prog w11 = .ok (.string s14) w11 ∧ R (.returned (.tuple #[.string s14, .bool (n13 == 0)])) w11)
    (entry : CondQ (decide (id < 1)) (R (.returned (.tuple #[.string ⟨#[]⟩, .bool false])) w) (∃ (A1 : Option Addr) (m1 c1 : Nat), w.cell? ⟨pb, 2, none⟩ = some (.slice A1 m1 c1) ∧ CondQ (decide (id ≥ ((m1 : Nat) : Int))) (R (.returned (.tuple #[.string ⟨#[]⟩, .bool false])) w) (∃ (A2 : Option Addr) (m2 c2 : Nat), w.cell? ⟨pb, 2, none⟩ = some (.slice A2 m2 c2) ∧ (0 ≤ id ∧ id < ((m2 : Nat) : Int)) ∧ optQ A2 fun a3 => ∃ n4 : Int, w.cell? (Addr.add (Addr.add a3 (Int.toNat id * 4)) 3) = some (.int .i64 n4) ∧ CondQ (n4 == 0) (R (.returned (.tuple #[.string ⟨#[]⟩, .bool false])) w) ((.pointer (some ⟨pb, 0, none⟩) : Value) = .pointer (some ⟨pb, 0, none⟩) ∧ (.int .i64 id : Value) = .int .i64 id ∧ JB3 [] w)))) : Calls Tryz.prog 162 #[.pointer (some ⟨pb, 0, none⟩), .int .i64 id] w R :=
  calls_of_vc (B := bodied) (pl := f162_pl) (K := f162_K R pb id JB3) follows_mixed bodied_ok Tryz.func162 (c := codeOf Tryz.f162) (by kernel_rfl) (by kernel_rfl) (fun _ _ _ _ => (by kernel_rfl))
    ((.seq (by kernel_rfl) (by kernel_rfl) (.none (by kernel_rfl)) (.cut (f162_MB3 pb id JB3) (by kernel_rfl) (by kernel_rfl) (fun a w h => f162_MB3.el (pb := pb) (id := id) (C := fun a w => vcE Tryz.prog bodied f162_pl (f162_K R pb id JB3) [] 0 _ _ ⟨a, []⟩ w) h fun ds hJ => cast_of (by kernel_rfl) (before3 w hJ)) (.none (by kernel_rfl)) (.none (by kernel_rfl)))))
    (cast_of (by kernel_rfl) entry)

/- (*heavykeys/pool.Pool).Text -/
def f100_K (R : Ending → World → Prop) (pb : Nat) (id : Int) : Ann where
  inv := fun g b a w => False
  out := fun g b e a w => match e with | .exit i => False | .ret => RetQ Tryz.prog Tryz.f100 R .ret a w | _ => False
  var := fun g b a w => 0
  after := fun r => none
  before := fun r => none
def f100_pl : Plans := fun | _ => (.done, [])
theorem f100_vc {R : Ending → World → Prop} {pb : Nat} {id : Int} {w : World}
    (entry : Calls Tryz.prog 162 #[.pointer (some ⟨pb, 0, none⟩), .int .i64 id] w fun e1 w2 => ∃ s3 : ByteArray, ∃ b4 : Bool, e1 = .returned (.tuple #[.string s3, .bool b4]) ∧ CondQ (!b4) (R (.returned (.tuple #[.string ⟨#[]⟩, .int .i64 8])) w2) (R (.returned (.tuple #[.string s3, .int .i64 0])) w2)) : Calls Tryz.prog 100 #[.pointer (some ⟨pb, 0, none⟩), .int .i64 id] w R :=
  calls_of_vc (B := bodied) (pl := f100_pl) (K := f100_K R pb id) follows_mixed bodied_ok Tryz.func100 (c := codeOf Tryz.f100) (by kernel_rfl) (by kernel_rfl) (fun _ _ _ _ => (by kernel_rfl))
    ((.none (by kernel_rfl)))
    (cast_of (by kernel_rfl) entry)

/- (*heavykeys/pool.Pool).Release -/
def f101_K (R : Ending → World → Prop) (pb : Nat) (id : Int) : Ann where
  inv := fun g b a w => False
  out := fun g b e a w => match e with | .exit i => False | .ret => RetQ Tryz.prog Tryz.f101 R .ret a w | _ => False
  var := fun g b a w => 0
  after := fun r => none
  before := fun r => none
def f101_pl : Plans := fun | 9 => (.val 0 <| .val 1 <| .val 2 <| .val 4 <| .val 5 <| .val 6 <| .ld 3 [[8]] <| .ld 7 [[8]] <| .eff 8 <| .val 9 <| .done, [8]) | _ => (.done, [])
theorem f101_vc {R : Ending → World → Prop} {pb : Nat} {id : Int} {w : World}
    (entry : Calls Tryz.prog 162 #[.pointer (some ⟨pb, 0, none⟩), .int .i64 id] w fun e1 w2 => ∃ s3 : ByteArray, ∃ b4 : Bool, e1 = .returned (.tuple #[.string s3, .bool b4]) ∧ CondQ (!b4) (R (.returned (.int .i64 8)) w2) (∃ (A5 : Option Addr) (m5 c5 : Nat), w2.cell? ⟨pb, 2, none⟩ = some (.slice A5 m5 c5) ∧ (0 ≤ id ∧ id < ((m5 : Nat) : Int)) ∧ optQ A5 fun a6 => ∃ n7 : Int, w2.cell? (Addr.add (Addr.add a6 (Int.toNat id * 4)) 3) = some (.int .i64 n7) ∧ StoreQ w2 (Addr.add (Addr.add a6 (Int.toNat id * 4)) 3) [.int .i64 (IntKind.wrap .i64 (n7 - 1))] fun w8 => ∃ n9 : Int, w8.cell? (Addr.add (Addr.add a6 (Int.toNat id * 4)) 3) = some (.int .i64 n9) ∧ CondQ (decide (n9 > 0)) (R (.returned (.int .i64 0)) w8) (∃ r10 : Option Nat, w8.cell? ⟨pb, 3, none⟩ = some (.map r10) ∧ ∃ w11, (Builtin.delete_ #[106, 9] 0 #[.map r10, .string s3]).run Tryz.prog w8 = .ok (.tuple #[]) w11 ∧ ∃ p12 : Option Addr, w11.drew.cell? ⟨pb, 0, none⟩ = some (.pointer p12) ∧ ∃ cs13 : Array Value, LoadsA w11.drew (Addr.add a6 (Int.toNat id * 4)) 3 cs13 ∧ Calls Tryz.prog 95 #[.pointer p12, .agg cs13] w11.drew fun e14 w15 => ∃ n16 : Int, e14 = .returned (.int .i64 n16) ∧ R (.returned (.int .i64 n16)) w15))) : Calls Tryz.prog 101 #[.pointer (some ⟨pb, 0, none⟩), .int .i64 id] w R :=
  calls_of_vc (B := bodied) (pl := f101_pl) (K := f101_K R pb id) follows_mixed bodied_ok Tryz.func101 (c := codeOf Tryz.f101) (by kernel_rfl) (by kernel_rfl) (fun _ _ _ _ => (by kernel_rfl))
    ((.none (by kernel_rfl)))
    (cast_of (by kernel_rfl) entry)

/- heavykeys/pool.New -/
def f11_MB5 (a_b : Nat) (n : Int) (JB5 : List Nat → World → Prop) (g : List Nat) (a : Act) (w : World) : Prop := sizeS 20 a (a.tmps.getD 0 undef = (.pointer (some ⟨a_b, 0, none⟩) : Value) ∧ a.tmps.getD 1 undef = (.int .i64 n : Value) ∧ JB5 g w)
theorem f11_MB5.el {a_b : Nat} {n : Int} {JB5 : List Nat → World → Prop} {g : List Nat} {a : Act} {w : World} {C : Act → World → Prop} (h : f11_MB5 a_b n JB5 g a w) (H : ∀ (ds : Nat → Value), JB5 g w → C (frameD ds 20 [(0, .pointer (some ⟨a_b, 0, none⟩)), (1, .int .i64 n)]) w) : C a w :=
  have h := sizeS.out h; have hs := h.1; have h := h.2; have q0 := h.1; have h := h.2; have q1 := h.1; have h := h.2; el_of (l := [(0, .pointer (some ⟨a_b, 0, none⟩)), (1, .int .i64 n)]) hs (⟨q0, q1, trivial⟩) (H _ h)
def f11_K (R : Ending → World → Prop) (a_b : Nat) (n : Int) (JB5 : List Nat → World → Prop) : Ann where
  inv := fun g b a w => False
  out := fun g b e a w => match e with | .exit i => False | .ret => RetQ Tryz.prog Tryz.f11 R .ret a w | _ => False
  var := fun g b a w => 0
  after := fun r => none
  before := fun r => if r = 5 then some (f11_MB5 a_b n JB5) else none
def f11_pl : Plans := fun | _ => (.done, [])
theorem f11_vc {R : Ending → World → Prop} {a_b : Nat} {n : Int} {w : World} (JB5 : List Nat → World → Prop)
    (before5 : ∀ (w1 : World), JB5 [] w1 → ∃ (A3 : Option Addr) (m3 c3 : Nat), ∃ w2, (Instr.makeSlice 105 (.int .i64 1) (.int .i64 1)).run Tryz.prog w1 = .ok (.slice A3 m3 c3) w2 ∧ ∃ r5 : Option Nat, ∃ w4, (Instr.makeMap 106 none).run Tryz.prog w2 = .ok (.map r5) w4 ∧ AllocQ w4 108 #[.pointer (some ⟨a_b, 0, none⟩), .int .i64 n, .slice A3 m3 c3, .map r5] fun b6 w7 => R (.returned (.tuple #[.pointer (some ⟨b6, 0, none⟩), .int .i64 0])) w7)
    (entry : CondQ (decide (n < 1)) (R (.returned (.tuple #[.pointer none, .int .i64 1])) w) (CondQ (decide (n > 8192)) (R (.returned (.tuple #[.pointer none, .int .i64 1])) w) ((.pointer (some ⟨a_b, 0, none⟩) : Value) = .pointer (some ⟨a_b, 0, none⟩) ∧ (.int .i64 n : Value) = .int .i64 n ∧ JB5 [] w))) : Calls Tryz.prog 11 #[.pointer (some ⟨a_b, 0, none⟩), .int .i64 n] w R :=
  calls_of_vc (B := bodied) (pl := f11_pl) (K := f11_K R a_b n JB5) follows_mixed bodied_ok Tryz.func11 (c := codeOf Tryz.f11) (by kernel_rfl) (by kernel_rfl) (fun _ _ _ _ => (by kernel_rfl))
    ((.seq (by kernel_rfl) (by kernel_rfl) (.none (by kernel_rfl)) (.seq (by kernel_rfl) (by kernel_rfl) (.none (by kernel_rfl)) (.cut (f11_MB5 a_b n JB5) (by kernel_rfl) (by kernel_rfl) (fun a w h => f11_MB5.el (a_b := a_b) (n := n) (C := fun a w => vcE Tryz.prog bodied f11_pl (f11_K R a_b n JB5) [] 0 _ _ ⟨a, []⟩ w) h fun ds hJ => cast_of (by kernel_rfl) (before5 w hJ)) (.none (by kernel_rfl)) (.none (by kernel_rfl))))))
    (cast_of (by kernel_rfl) entry)

/- heavykeys/queue.New -/
def f76_MB3 (a_b pb : Nat) (n : Int) (JB3 : List Nat → World → Prop) (g : List Nat) (a : Act) (w : World) : Prop := sizeS 26 a (a.tmps.getD 0 undef = (.pointer (some ⟨a_b, 0, none⟩) : Value) ∧ a.tmps.getD 1 undef = (.pointer (some ⟨pb, 0, none⟩) : Value) ∧ a.tmps.getD 2 undef = (.int .i64 n : Value) ∧ JB3 g w)
theorem f76_MB3.el {a_b pb : Nat} {n : Int} {JB3 : List Nat → World → Prop} {g : List Nat} {a : Act} {w : World} {C : Act → World → Prop} (h : f76_MB3 a_b pb n JB3 g a w) (H : ∀ (ds : Nat → Value), JB3 g w → C (frameD ds 26 [(0, .pointer (some ⟨a_b, 0, none⟩)), (1, .pointer (some ⟨pb, 0, none⟩)), (2, .int .i64 n)]) w) : C a w :=
  have h := sizeS.out h; have hs := h.1; have h := h.2; have q0 := h.1; have h := h.2; have q1 := h.1; have h := h.2; have q2 := h.1; have h := h.2; el_of (l := [(0, .pointer (some ⟨a_b, 0, none⟩)), (1, .pointer (some ⟨pb, 0, none⟩)), (2, .int .i64 n)]) hs (⟨q0, q1, q2, trivial⟩) (H _ h)
def f76_MB5 (a_b pb : Nat) (n : Int) (JB5 : List Nat → World → Prop) (g : List Nat) (a : Act) (w : World) : Prop := sizeS 26 a (a.tmps.getD 0 undef = (.pointer (some ⟨a_b, 0, none⟩) : Value) ∧ a.tmps.getD 1 undef = (.pointer (some ⟨pb, 0, none⟩) : Value) ∧ a.tmps.getD 2 undef = (.int .i64 n : Value) ∧ JB5 g w)
theorem f76_MB5.el {a_b pb : Nat} {n : Int} {JB5 : List Nat → World → Prop} {g : List Nat} {a : Act} {w : World} {C : Act → World → Prop} (h : f76_MB5 a_b pb n JB5 g a w) (H : ∀ (ds : Nat → Value), JB5 g w → C (frameD ds 26 [(0, .pointer (some ⟨a_b, 0, none⟩)), (1, .pointer (some ⟨pb, 0, none⟩)), (2, .int .i64 n)]) w) : C a w :=
  have h := sizeS.out h; have hs := h.1; have h := h.2; have q0 := h.1; have h := h.2; have q1 := h.1; have h := h.2; have q2 := h.1; have h := h.2; el_of (l := [(0, .pointer (some ⟨a_b, 0, none⟩)), (1, .pointer (some ⟨pb, 0, none⟩)), (2, .int .i64 n)]) hs (⟨q0, q1, q2, trivial⟩) (H _ h)
def f76_K (R : Ending → World → Prop) (a_b pb : Nat) (n : Int) (JB3 : List Nat → World → Prop) (JB5 : List Nat → World → Prop) : Ann where
  inv := fun g b a w => False
  out := fun g b e a w => match e with | .exit i => False | .ret => RetQ Tryz.prog Tryz.f76 R .ret a w | _ => False
  var := fun g b a w => 0
  after := fun r => none
  before := fun r => if r = 3 then some (f76_MB3 a_b pb n JB3) else if r = 5 then some (f76_MB5 a_b pb n JB5) else none
def f76_pl : Plans := fun | _ => (.done, [])
theorem f76_vc {R : Ending → World → Prop} {a_b pb : Nat} {n : Int} {w : World} (JB3 : List Nat → World → Prop) (JB5 : List Nat → World → Prop)
    (before3 : ∀ (w1 : World), JB3 [] w1 → CondQ (decide (n < 1)) (R (.returned (.tuple #[.pointer none, .int .i64 1])) w1) (CondQ (decide (n > 64)) (R (.returned (.tuple #[.pointer none, .int .i64 1])) w1) ((.pointer (some ⟨a_b, 0, none⟩) : Value) = .pointer (some ⟨a_b, 0, none⟩) ∧ (.pointer (some ⟨pb, 0, none⟩) : Value) = .pointer (some ⟨pb, 0, none⟩) ∧ (.int .i64 n : Value) = .int .i64 n ∧ JB5 [] w1)))
    (before5 : ∀ (w2 : World), JB5 [] w2 → ∃ (A4 : Option Addr) (m4 c4 : Nat), ∃ w3, (Instr.makeSlice 191 (.int .i64 n) (.int .i64 n)).run Tryz.prog w2 = .ok (.slice A4 m4 c4) w3 ∧ AllocQ w3 193 #[.pointer (some ⟨a_b, 0, none⟩), .pointer (some ⟨pb, 0, none⟩), .slice A4 m4 c4, .int .i64 0] fun b5 w6 => R (.returned (.tuple #[.pointer (some ⟨b5, 0, none⟩), .int .i64 0])) w6)
    (entry : (.pointer (some ⟨a_b, 0, none⟩) : Value) = .pointer (some ⟨a_b, 0, none⟩) ∧ (.pointer (some ⟨pb, 0, none⟩) : Value) = .pointer (some ⟨pb, 0, none⟩) ∧ (.int .i64 n : Value) = .int .i64 n ∧ JB3 [] w) : Calls Tryz.prog 76 #[.pointer (some ⟨a_b, 0, none⟩), .pointer (some ⟨pb, 0, none⟩), .int .i64 n] w R :=
  calls_of_vc (B := bodied) (pl := f76_pl) (K := f76_K R a_b pb n JB3 JB5) follows_mixed bodied_ok Tryz.func76 (c := codeOf Tryz.f76) (by kernel_rfl) (by kernel_rfl) (fun _ _ _ _ => (by kernel_rfl))
    ((.seq (by kernel_rfl) (by kernel_rfl) (.none (by kernel_rfl)) (.cut (f76_MB3 a_b pb n JB3) (by kernel_rfl) (by kernel_rfl) (fun a w h => f76_MB3.el (a_b := a_b) (pb := pb) (n := n) (C := fun a w => vcE Tryz.prog bodied f76_pl (f76_K R a_b pb n JB3 JB5) [] 0 _ _ ⟨a, []⟩ w) h fun ds hJ => cast_of (by kernel_rfl) (before3 w hJ)) (.none (by kernel_rfl)) (.cut (f76_MB5 a_b pb n JB5) (by kernel_rfl) (by kernel_rfl) (fun a w h => f76_MB5.el (a_b := a_b) (pb := pb) (n := n) (C := fun a w => vcE Tryz.prog bodied f76_pl (f76_K R a_b pb n JB3 JB5) [] 0 _ _ ⟨a, []⟩ w) h fun ds hJ => cast_of (by kernel_rfl) (before5 w hJ)) (.none (by kernel_rfl)) (.none (by kernel_rfl))))))
    (cast_of (by kernel_rfl) entry)

/- (*heavykeys/queue.Queue).Push -/
def f53_K (R : Ending → World → Prop) (qb : Nat) (window : Int) (xcs : Array Value) : Ann where
  inv := fun g b a w => False
  out := fun g b e a w => match e with | .exit i => False | .ret => RetQ Tryz.prog Tryz.f53 R .ret a w | _ => False
  var := fun g b a w => 0
  after := fun r => none
  before := fun r => none
def f53_pl : Plans := fun | 3 => (.val 0 <| .val 1 <| .val 2 <| .val 4 <| .val 5 <| .val 6 <| .ld 3 [] <| .ld 7 [] <| .val 8 <| .val 9 <| .val 10 <| .done, []) | 12 => (.val 0 <| .val 1 <| .val 2 <| .val 4 <| .ld 3 [[6]] <| .ld 5 [[6]] <| .eff 6 <| .val 7 <| .val 8 <| .val 9 <| .val 10 <| .val 11 <| .done, [6]) | 14 => (.val 0 <| .val 1 <| .val 2 <| .ld 3 [[5]] <| .ld 4 [[5]] <| .eff 5 <| .done, [5]) | 16 => (.val 0 <| .val 1 <| .val 2 <| .val 4 <| .val 5 <| .val 6 <| .val 8 <| .val 9 <| .val 11 <| .val 14 <| .ld 3 [[17]] <| .ld 7 [[17]] <| .ld 10 [[17]] <| .ld 12 [[17]] <| .ld 13 [[17]] <| .val 15 <| .val 16 <| .eff 17 <| .done, [17]) | _ => (.done, [])
theorem f53_vc {R : Ending → World → Prop} {qb : Nat} {window : Int} {xcs : Array Value} {w : World}
    (entry : AllocQ w 49 xcs fun b1 w2 => ∃ n3 : Int, w2.drew.cell? ⟨qb, 3, none⟩ = some (.int .i64 n3) ∧ ∃ (A4 : Option Addr) (m4 c4 : Nat), w2.drew.cell? ⟨qb, 2, none⟩ = some (.slice A4 m4 c4) ∧ CondQ (n3 == ((m4 : Nat) : Int)) (R (.returned (.int .i64 7)) w2.drew) (∃ s5 : ByteArray, w2.drew.cell? ⟨b1, 0, none⟩ = some (.string s5) ∧ CondQ (s5.toList == (⟨#[]⟩ : ByteArray).toList) (R (.returned (.int .i64 3)) w2.drew) (∃ s6 : ByteArray, w2.drew.cell? ⟨b1, 0, none⟩ = some (.string s6) ∧ CondQ (decide (((s6.size : Nat) : Int) > 255)) (R (.returned (.int .i64 4)) w2.drew) (∃ p7 : Option Addr, w2.drew.cell? ⟨qb, 0, none⟩ = some (.pointer p7) ∧ Calls Tryz.prog 51 #[.pointer p7, .int .i64 24] w2.drew fun e8 w9 => ∃ cs10 : Array Value, ∃ n11 : Int, e8 = .returned (.tuple #[.agg cs10, .int .i64 n11]) ∧ AllocQ w9 123 #[.int .i64 0, .int .i64 0, .int .i64 0] fun b12 w13 => (cs10 : Array Value).size = 3 ∧ StoreQ w13 ⟨b12, 0, none⟩ cs10.toList fun w14 => CondQ (n11 != 0) (R (.returned (.int .i64 n11)) w14) (∃ p15 : Option Addr, w14.drew.cell? ⟨qb, 1, none⟩ = some (.pointer p15) ∧ ∃ s16 : ByteArray, w14.drew.cell? ⟨b1, 0, none⟩ = some (.string s16) ∧ Calls Tryz.prog 99 #[.pointer p15, .string s16] w14.drew fun e17 w18 => ∃ n19 : Int, ∃ n20 : Int, e17 = .returned (.tuple #[.int .i64 n19, .int .i64 n20]) ∧ CondQ (n20 != 0) (∃ p21 : Option Addr, w18.drew.cell? ⟨qb, 0, none⟩ = some (.pointer p21) ∧ ∃ cs22 : Array Value, LoadsA w18.drew ⟨b12, 0, none⟩ 3 cs22 ∧ Calls Tryz.prog 95 #[.pointer p21, .agg cs22] w18.drew fun e23 w24 => ∃ n25 : Int, e23 = .returned (.int .i64 n25) ∧ R (.returned (.int .i64 n20)) w24) (∃ (A26 : Option Addr) (m26 c26 : Nat), w18.drew.cell? ⟨qb, 2, none⟩ = some (.slice A26 m26 c26) ∧ ∃ n27 : Int, w18.drew.cell? ⟨qb, 3, none⟩ = some (.int .i64 n27) ∧ ∃ n28 : Int, w18.drew.cell? ⟨b1, 1, none⟩ = some (.int .i64 n28) ∧ ∃ n29 : Int, w18.drew.cell? ⟨b1, 2, none⟩ = some (.int .u64 n29) ∧ ∃ cs30 : Array Value, LoadsA w18.drew ⟨b12, 0, none⟩ 3 cs30 ∧ (cs30 : Array Value).size = 3 ∧ (0 ≤ n27 ∧ n27 < ((m26 : Nat) : Int)) ∧ optQ A26 fun a31 => (setL (setL #[.int .i64 window, .int .i64 n28, .int .u64 n29, .int .i64 0, .int .i64 0, .int .i64 0, .int .i64 0] 3 (Array.toList cs30)) 6 ([.int .i64 n19]) : Array Value).size = 7 ∧ StoreQ w18.drew (Addr.add a31 (Int.toNat n27 * 7)) (setL (setL #[.int .i64 window, .int .i64 n28, .int .u64 n29, .int .i64 0, .int .i64 0, .int .i64 0, .int .i64 0] 3 (Array.toList cs30)) 6 ([.int .i64 n19])).toList fun w32 => ∃ n33 : Int, w32.cell? ⟨qb, 3, none⟩ = some (.int .i64 n33) ∧ StoreQ w32 ⟨qb, 3, none⟩ [.int .i64 (IntKind.wrap .i64 (n33 + 1))] fun w34 => R (.returned (.int .i64 0)) w34)))))) : Calls Tryz.prog 53 #[.pointer (some ⟨qb, 0, none⟩), .int .i64 window, .agg xcs] w R :=
  calls_of_vc (B := bodied) (pl := f53_pl) (K := f53_K R qb window xcs) follows_mixed bodied_ok Tryz.func53 (c := codeOf Tryz.f53) (by kernel_rfl) (by kernel_rfl) (fun _ _ _ _ => (by kernel_rfl))
    ((.none (by kernel_rfl)))
    (cast_of (by kernel_rfl) entry)

/- (*heavykeys/queue.Queue).Len -/
def f64_K (R : Ending → World → Prop) (qb : Nat) : Ann where
  inv := fun g b a w => False
  out := fun g b e a w => match e with | .exit i => False | .ret => RetQ Tryz.prog Tryz.f64 R .ret a w | _ => False
  var := fun g b a w => 0
  after := fun r => none
  before := fun r => none
def f64_pl : Plans := fun | _ => (.done, [])
theorem f64_vc {R : Ending → World → Prop} {qb : Nat} {w : World}
    (entry : ∃ n1 : Int, w.cell? ⟨qb, 3, none⟩ = some (.int .i64 n1) ∧ R (.returned (.int .i64 n1)) w) : Calls Tryz.prog 64 #[.pointer (some ⟨qb, 0, none⟩)] w R :=
  calls_of_vc (B := bodied) (pl := f64_pl) (K := f64_K R qb) follows_mixed bodied_ok Tryz.func64 (c := codeOf Tryz.f64) (by kernel_rfl) (by kernel_rfl) (fun _ _ _ _ => (by kernel_rfl))
    ((.none (by kernel_rfl)))
    (cast_of (by kernel_rfl) entry)

/- (*heavykeys/queue.Queue).Until -/
def f63_I0 (qb : Nat) (window : Int) (JL0 : List Nat → Int → World → Prop) (g : List Nat) (a : Act) (w : World) : Prop := sizeS 29 a (intS .i64 (a.tmps.getD 5 undef) fun i_5 => a.tmps.getD 0 undef = (.pointer (some ⟨qb, 0, none⟩) : Value) ∧ a.tmps.getD 1 undef = (.int .i64 window : Value) ∧ JL0 g i_5 w)
theorem f63_I0.el {qb : Nat} {window : Int} {JL0 : List Nat → Int → World → Prop} {g : List Nat} {a : Act} {w : World} {C : Act → World → Prop} (h : f63_I0 qb window JL0 g a w) (H : ∀ (ds : Nat → Value) (i_5 : Int), JL0 g i_5 w → C (frameD ds 29 [(0, .pointer (some ⟨qb, 0, none⟩)), (1, .int .i64 window), (5, .int .i64 i_5)]) w) : C a w :=
  have h := sizeS.out h; have hs := h.1; have h := h.2; Exists.elim (intS.out h) fun i_5 h => have q5 := h.1; have h := h.2; have q0 := h.1; have h := h.2; have q1 := h.1; have h := h.2; el_of (l := [(0, .pointer (some ⟨qb, 0, none⟩)), (1, .int .i64 window), (5, .int .i64 i_5)]) hs (⟨q0, q1, q5, trivial⟩) (H _ i_5 h)
def f63_MX0_0 (qb : Nat) (window : Int) (JX0_0 : List Nat → World → Prop) (g : List Nat) (a : Act) (w : World) : Prop := sizeS 29 a (JX0_0 g w)
theorem f63_MX0_0.el {qb : Nat} {window : Int} {JX0_0 : List Nat → World → Prop} {g : List Nat} {a : Act} {w : World} {C : Act → World → Prop} (h : f63_MX0_0 qb window JX0_0 g a w) (H : ∀ (ds : Nat → Value), JX0_0 g w → C (frameD ds 29 []) w) : C a w :=
  have h := sizeS.out h; have hs := h.1; have h := h.2; el_of (l := []) hs (trivial) (H _ h)
def f63_K (R : Ending → World → Prop) (qb : Nat) (window : Int) (JL0 : List Nat → Int → World → Prop) (VL0 : List Nat → Int → World → Nat) (JX0_0 : List Nat → World → Prop) : Ann where
  inv := fun g b a w => if b = 0 then f63_I0 qb window JL0 g a w else False
  out := fun g b e a w => match e with | .exit i => if b = 0 then (if i = 0 then f63_MX0_0 qb window JX0_0 g a w else False) else False | .ret => RetQ Tryz.prog Tryz.f63 R .ret a w | _ => False
  var := fun g b a w => if b = 0 then VL0 g (slotI a 5) w else 0
  after := fun r => none
  before := fun r => none
def f63_pl : Plans := fun | _ => (.done, [])
theorem f63_vc {R : Ending → World → Prop} {qb : Nat} {window : Int} {w : World} (JL0 : List Nat → Int → World → Prop) (VL0 : List Nat → Int → World → Nat) (JX0_0 : List Nat → World → Prop)
    (round0 : ∀ (i_5 : Int) (w2 : World) (m3 : Nat), JL0 [] i_5 w2 → VL0 [] i_5 w2 = m3 → CondQ (decide (i_5 ≥ 0)) (∃ (A4 : Option Addr) (m4 c4 : Nat), w2.cell? ⟨qb, 2, none⟩ = some (.slice A4 m4 c4) ∧ (0 ≤ i_5 ∧ i_5 < ((m4 : Nat) : Int)) ∧ optQ A4 fun a5 => ∃ n6 : Int, w2.cell? (Addr.add a5 (Int.toNat i_5 * 7)) = some (.int .i64 n6) ∧ CondQ (decide (n6 ≤ window)) (R (.returned (.int .i64 (IntKind.wrap .i64 (i_5 + 1)))) w2) (((.pointer (some ⟨qb, 0, none⟩) : Value) = .pointer (some ⟨qb, 0, none⟩) ∧ (.int .i64 window : Value) = .int .i64 window ∧ JL0 [] (IntKind.wrap .i64 (i_5 - 1)) w2) ∧ VL0 [] (IntKind.wrap .i64 (i_5 - 1)) w2 < m3)) (JX0_0 [] w2))
    (exit0_0 : ∀ (w7 : World), JX0_0 [] w7 → R (.returned (.int .i64 0)) w7)
    (entry : ∃ n1 : Int, w.cell? ⟨qb, 3, none⟩ = some (.int .i64 n1) ∧ (.pointer (some ⟨qb, 0, none⟩) : Value) = .pointer (some ⟨qb, 0, none⟩) ∧ (.int .i64 window : Value) = .int .i64 window ∧ JL0 [] (IntKind.wrap .i64 (n1 - 1)) w) : Calls Tryz.prog 63 #[.pointer (some ⟨qb, 0, none⟩), .int .i64 window] w R :=
  calls_of_vc (B := bodied) (pl := f63_pl) (K := f63_K R qb window JL0 VL0 JX0_0) follows_mixed bodied_ok Tryz.func63 (c := codeOf Tryz.f63) (by kernel_rfl) (by kernel_rfl) (fun _ _ _ _ => (by kernel_rfl))
    ((.seq (by kernel_rfl) (by kernel_rfl) (.none (by kernel_rfl)) (.seq (by kernel_rfl) (by kernel_rfl) (.none (by kernel_rfl)) (.seq (by kernel_rfl) (by kernel_rfl) (.seq (by kernel_rfl) (by kernel_rfl) (.none (by kernel_rfl)) (.block 0 (by kernel_rfl) (.loop (by kernel_rfl) (by
      intro e a w hr h
      cases e with
      | exit i => (replace h : if i = 0 then f63_MX0_0 qb window JX0_0 [] a w else False := cast_of (by kernel_rfl) h); (refine ite_elim h (fun hi h => by subst hi; exact f63_MX0_0.el (qb := qb) (window := window) (C := fun a w => (_ : Exit → Env → World → Prop) (.exit 0) ⟨a, []⟩ w) h fun ds hJ => cast_of (by kernel_rfl) (exit0_0 w hJ)) (fun _ h => ?_); exact h.elim)
      | ret => exact absurd rfl hr
      | _ => exact (cast_of (q := False) (by kernel_rfl) h).elim)
      (fun _ _ h => cast_of (by kernel_rfl) h)
      (fun _ _ _ h => cast_of (by kernel_rfl) h)
      (fun m3 a w h => f63_I0.el (qb := qb) (window := window) (C := fun a w => (f63_K R qb window JL0 VL0 JX0_0).var [] 0 a w = m3 → vcE Tryz.prog bodied f63_pl (f63_K R qb window JL0 VL0 JX0_0) (m3 :: []) 0 _ _ ⟨a, []⟩ w) (cast_of (q := f63_I0 qb window JL0 [] a w) (by kernel_rfl) h) fun ds i_5 hJ hm => cast_of (by kernel_rfl) (round0 i_5 w m3 hJ (cast_of (by kernel_rfl) hm)))
      (fun m3 => (.none (by kernel_rfl)))))) (.none (by kernel_rfl))))))
    (cast_of (by kernel_rfl) entry)

/- (*heavykeys/queue.Queue).Weight -/
def f79_I0 (qb : Nat) (window : Int) (key : ByteArray) (JL0 : List Nat → Int → Option Addr → Nat → Nat → Int → Int → World → Prop) (g : List Nat) (a : Act) (w : World) : Prop := sizeS 56 a (intS .u64 (a.tmps.getD 7 undef) fun sum_7 => sliceS (a.tmps.getD 22 undef) fun x_22A x_22n x_22c => intS .i64 (a.tmps.getD 23 undef) fun x_23 => intS .i64 (a.tmps.getD 24 undef) fun x_24 => a.tmps.getD 0 undef = (.pointer (some ⟨qb, 0, none⟩) : Value) ∧ a.tmps.getD 1 undef = (.int .i64 window : Value) ∧ a.tmps.getD 2 undef = (.string key : Value) ∧ JL0 g sum_7 x_22A x_22n x_22c x_23 x_24 w)
theorem f79_I0.el {qb : Nat} {window : Int} {key : ByteArray} {JL0 : List Nat → Int → Option Addr → Nat → Nat → Int → Int → World → Prop} {g : List Nat} {a : Act} {w : World} {C : Act → World → Prop} (h : f79_I0 qb window key JL0 g a w) (H : ∀ (ds : Nat → Value) (sum_7 : Int) (x_22A : Option Addr) (x_22n x_22c : Nat) (x_23 x_24 : Int), JL0 g sum_7 x_22A x_22n x_22c x_23 x_24 w → C (frameD ds 56 [(0, .pointer (some ⟨qb, 0, none⟩)), (1, .int .i64 window), (2, .string key), (7, .int .u64 sum_7), (22, .slice x_22A x_22n x_22c), (23, .int .i64 x_23), (24, .int .i64 x_24)]) w) : C a w :=
  have h := sizeS.out h; have hs := h.1; have h := h.2; Exists.elim (intS.out h) fun sum_7 h => have q7 := h.1; have h := h.2; Exists.elim (sliceS.out h) fun x_22A h => Exists.elim h fun x_22n h => Exists.elim h fun x_22c h => have q22 := h.1; have h := h.2; Exists.elim (intS.out h) fun x_23 h => have q23 := h.1; have h := h.2; Exists.elim (intS.out h) fun x_24 h => have q24 := h.1; have h := h.2; have q0 := h.1; have h := h.2; have q1 := h.1; have h := h.2; have q2 := h.1; have h := h.2; el_of (l := [(0, .pointer (some ⟨qb, 0, none⟩)), (1, .int .i64 window), (2, .string key), (7, .int .u64 sum_7), (22, .slice x_22A x_22n x_22c), (23, .int .i64 x_23), (24, .int .i64 x_24)]) hs (⟨q0, q1, q2, q7, q22, q23, q24, trivial⟩) (H _ sum_7 x_22A x_22n x_22c x_23 x_24 h)
def f79_MX0_0 (qb : Nat) (window : Int) (key : ByteArray) (JX0_0 : List Nat → Int → World → Prop) (g : List Nat) (a : Act) (w : World) : Prop := sizeS 56 a (intS .u64 (a.tmps.getD 7 undef) fun sum_7 => JX0_0 g sum_7 w)
theorem f79_MX0_0.el {qb : Nat} {window : Int} {key : ByteArray} {JX0_0 : List Nat → Int → World → Prop} {g : List Nat} {a : Act} {w : World} {C : Act → World → Prop} (h : f79_MX0_0 qb window key JX0_0 g a w) (H : ∀ (ds : Nat → Value) (sum_7 : Int), JX0_0 g sum_7 w → C (frameD ds 56 [(7, .int .u64 sum_7)]) w) : C a w :=
  have h := sizeS.out h; have hs := h.1; have h := h.2; Exists.elim (intS.out h) fun sum_7 h => have q7 := h.1; have h := h.2; el_of (l := [(7, .int .u64 sum_7)]) hs (⟨q7, trivial⟩) (H _ sum_7 h)
def f79_MA8 (qb : Nat) (window : Int) (key : ByteArray) (JA8 : List Nat → Int → Nat → Option Addr → Nat → Nat → Int → Int → Bool → World → Prop) (g : List Nat) (a : Act) (w : World) : Prop := sizeS 56 a (intS .u64 (a.tmps.getD 7 undef) fun sum_7 => blkS (a.tmps.getD 9 undef) fun w_9b => sliceS (a.tmps.getD 22 undef) fun x_22A x_22n x_22c => intS .i64 (a.tmps.getD 23 undef) fun x_23 => intS .i64 (a.tmps.getD 24 undef) fun x_24 => boolS (a.tmps.getD 46 undef) fun x_46 => a.tmps.getD 0 undef = (.pointer (some ⟨qb, 0, none⟩) : Value) ∧ a.tmps.getD 1 undef = (.int .i64 window : Value) ∧ a.tmps.getD 2 undef = (.string key : Value) ∧ JA8 g sum_7 w_9b x_22A x_22n x_22c x_23 x_24 x_46 w)
theorem f79_MA8.el {qb : Nat} {window : Int} {key : ByteArray} {JA8 : List Nat → Int → Nat → Option Addr → Nat → Nat → Int → Int → Bool → World → Prop} {g : List Nat} {a : Act} {w : World} {C : Act → World → Prop} (h : f79_MA8 qb window key JA8 g a w) (H : ∀ (ds : Nat → Value) (sum_7 : Int) (w_9b : Nat) (x_22A : Option Addr) (x_22n x_22c : Nat) (x_23 x_24 : Int) (x_46 : Bool), JA8 g sum_7 w_9b x_22A x_22n x_22c x_23 x_24 x_46 w → C (frameD ds 56 [(0, .pointer (some ⟨qb, 0, none⟩)), (1, .int .i64 window), (2, .string key), (7, .int .u64 sum_7), (9, .pointer (some ⟨w_9b, 0, none⟩)), (22, .slice x_22A x_22n x_22c), (23, .int .i64 x_23), (24, .int .i64 x_24), (46, .bool x_46)]) w) : C a w :=
  have h := sizeS.out h; have hs := h.1; have h := h.2; Exists.elim (intS.out h) fun sum_7 h => have q7 := h.1; have h := h.2; Exists.elim (blkS.out h) fun w_9b h => have q9 := h.1; have h := h.2; Exists.elim (sliceS.out h) fun x_22A h => Exists.elim h fun x_22n h => Exists.elim h fun x_22c h => have q22 := h.1; have h := h.2; Exists.elim (intS.out h) fun x_23 h => have q23 := h.1; have h := h.2; Exists.elim (intS.out h) fun x_24 h => have q24 := h.1; have h := h.2; Exists.elim (boolS.out h) fun x_46 h => have q46 := h.1; have h := h.2; have q0 := h.1; have h := h.2; have q1 := h.1; have h := h.2; have q2 := h.1; have h := h.2; el_of (l := [(0, .pointer (some ⟨qb, 0, none⟩)), (1, .int .i64 window), (2, .string key), (7, .int .u64 sum_7), (9, .pointer (some ⟨w_9b, 0, none⟩)), (22, .slice x_22A x_22n x_22c), (23, .int .i64 x_23), (24, .int .i64 x_24), (46, .bool x_46)]) hs (⟨q0, q1, q2, q7, q9, q22, q23, q24, q46, trivial⟩) (H _ sum_7 w_9b x_22A x_22n x_22c x_23 x_24 x_46 h)
def f79_K (R : Ending → World → Prop) (qb : Nat) (window : Int) (key : ByteArray) (JL0 : List Nat → Int → Option Addr → Nat → Nat → Int → Int → World → Prop) (VL0 : List Nat → Int → Option Addr → Nat → Nat → Int → Int → World → Nat) (JX0_0 : List Nat → Int → World → Prop) (JA8 : List Nat → Int → Nat → Option Addr → Nat → Nat → Int → Int → Bool → World → Prop) : Ann where
  inv := fun g b a w => if b = 0 then f79_I0 qb window key JL0 g a w else False
  out := fun g b e a w => match e with | .exit i => if b = 0 then (if i = 0 then f79_MX0_0 qb window key JX0_0 g a w else False) else False | .ret => RetQ Tryz.prog Tryz.f79 R .ret a w | _ => False
  var := fun g b a w => if b = 0 then VL0 g (slotI a 7) (slotA a 22) (slotN a 22) (slotC a 22) (slotI a 23) (slotI a 24) w else 0
  after := fun r => if r = 8 then some (f79_MA8 qb window key JA8) else none
  before := fun r => none
def f79_pl : Plans := fun | 4 => (.val 0 <| .val 1 <| .val 2 <| .val 4 <| .val 5 <| .val 6 <| .val 10 <| .ld 3 [] <| .ld 7 [] <| .val 8 <| .val 9 <| .done, []) | 7 => (.val 0 <| .val 1 <| .val 2 <| .val 4 <| .ld 3 [[6]] <| .ld 5 [[6]] <| .eff 6 <| .val 7 <| .val 8 <| .val 9 <| .val 10 <| .val 11 <| .done, [6]) | _ => (.done, [])
theorem f79_vc {R : Ending → World → Prop} {qb : Nat} {window : Int} {key : ByteArray} {w : World} (JL0 : List Nat → Int → Option Addr → Nat → Nat → Int → Int → World → Prop) (VL0 : List Nat → Int → Option Addr → Nat → Nat → Int → Int → World → Nat) (JX0_0 : List Nat → Int → World → Prop) (JA8 : List Nat → Int → Nat → Option Addr → Nat → Nat → Int → Int → Bool → World → Prop)
    (round0 : ∀ (sum_7 : Int) (x_22A : Option Addr) (x_22n x_22c : Nat) (x_23 x_24 : Int) (w3 : World) (m4 : Nat), JL0 [] sum_7 x_22A x_22n x_22c x_23 x_24 w3 → VL0 [] sum_7 x_22A x_22n x_22c x_23 x_24 w3 = m4 → CondQ (decide (x_24 < x_23)) ((0 ≤ x_24 ∧ x_24 < ((x_22n : Nat) : Int)) ∧ optQ x_22A fun a5 => ∃ cs6 : Array Value, LoadsA w3 (Addr.add a5 (Int.toNat x_24 * 7)) 7 cs6 ∧ AllocQ w3 196 #[.int .i64 0, .int .i64 0, .int .u64 0, .int .i64 0, .int .i64 0, .int .i64 0, .int .i64 0] fun b7 w8 => (cs6 : Array Value).size = 7 ∧ StoreQ w8 ⟨b7, 0, none⟩ cs6.toList fun w9 => ∃ p10 : Option Addr, w9.drew.cell? ⟨qb, 1, none⟩ = some (.pointer p10) ∧ ∃ n11 : Int, w9.drew.cell? ⟨b7, 6, none⟩ = some (.int .i64 n11) ∧ Calls Tryz.prog 100 #[.pointer p10, .int .i64 n11] w9.drew fun e12 w13 => ∃ s14 : ByteArray, ∃ n15 : Int, e12 = .returned (.tuple #[.string s14, .int .i64 n15]) ∧ ∃ n16 : Int, w13.cell? ⟨b7, 0, none⟩ = some (.int .i64 n16) ∧ CondQ (n16 == window) ((.pointer (some ⟨qb, 0, none⟩) : Value) = .pointer (some ⟨qb, 0, none⟩) ∧ (.int .i64 window : Value) = .int .i64 window ∧ (.string key : Value) = .string key ∧ JA8 [m4] sum_7 b7 x_22A x_22n x_22c x_23 x_24 (s14.toList == key.toList) w13) ((.pointer (some ⟨qb, 0, none⟩) : Value) = .pointer (some ⟨qb, 0, none⟩) ∧ (.int .i64 window : Value) = .int .i64 window ∧ (.string key : Value) = .string key ∧ JA8 [m4] sum_7 b7 x_22A x_22n x_22c x_23 x_24 false w13)) (JX0_0 [] sum_7 w3))
    (exit0_0 : ∀ (sum_7 : Int) (w23 : World), JX0_0 [] sum_7 w23 → R (.returned (.int .u64 sum_7)) w23)
    (after8 : ∀ (m4 : Nat) (sum_7 : Int) (w_9b : Nat) (x_22A : Option Addr) (x_22n x_22c : Nat) (x_23 x_24 : Int) (x_46 : Bool) (w17 : World), JA8 [m4] sum_7 w_9b x_22A x_22n x_22c x_23 x_24 x_46 w17 → CondQ x_46 (∃ n18 : Int, w17.cell? ⟨w_9b, 2, none⟩ = some (.int .u64 n18) ∧ Calls Tryz.prog 102 #[.int .u64 sum_7, .int .u64 n18] w17 fun e19 w20 => ∃ n21 : Int, ∃ b22 : Bool, e19 = .returned (.tuple #[.int .u64 n21, .bool b22]) ∧ ((.pointer (some ⟨qb, 0, none⟩) : Value) = .pointer (some ⟨qb, 0, none⟩) ∧ (.int .i64 window : Value) = .int .i64 window ∧ (.string key : Value) = .string key ∧ JL0 [] n21 x_22A x_22n x_22c x_23 (IntKind.wrap .i64 (x_24 + 1)) w20) ∧ VL0 [] n21 x_22A x_22n x_22c x_23 (IntKind.wrap .i64 (x_24 + 1)) w20 < m4) (((.pointer (some ⟨qb, 0, none⟩) : Value) = .pointer (some ⟨qb, 0, none⟩) ∧ (.int .i64 window : Value) = .int .i64 window ∧ (.string key : Value) = .string key ∧ JL0 [] sum_7 x_22A x_22n x_22c x_23 (IntKind.wrap .i64 (x_24 + 1)) w17) ∧ VL0 [] sum_7 x_22A x_22n x_22c x_23 (IntKind.wrap .i64 (x_24 + 1)) w17 < m4))
    (entry : ∃ (A1 : Option Addr) (m1 c1 : Nat), w.drew.cell? ⟨qb, 2, none⟩ = some (.slice A1 m1 c1) ∧ ∃ n2 : Int, w.drew.cell? ⟨qb, 3, none⟩ = some (.int .i64 n2) ∧ (0 ≤ n2 ∧ n2 ≤ ((c1 : Nat) : Int)) ∧ (.pointer (some ⟨qb, 0, none⟩) : Value) = .pointer (some ⟨qb, 0, none⟩) ∧ (.int .i64 window : Value) = .int .i64 window ∧ (.string key : Value) = .string key ∧ JL0 [] 0 A1 (Int.toNat n2) c1 ((Int.toNat n2 : Nat) : Int) 0 w.drew) : Calls Tryz.prog 79 #[.pointer (some ⟨qb, 0, none⟩), .int .i64 window, .string key] w R :=
  calls_of_vc (B := bodied) (pl := f79_pl) (K := f79_K R qb window key JL0 VL0 JX0_0 JA8) follows_mixed bodied_ok Tryz.func79 (c := codeOf Tryz.f79) (by kernel_rfl) (by kernel_rfl) (fun _ _ _ _ => (by kernel_rfl))
    ((.seq (by kernel_rfl) (by kernel_rfl) (.none (by kernel_rfl)) (.seq (by kernel_rfl) (by kernel_rfl) (.none (by kernel_rfl)) (.seq (by kernel_rfl) (by kernel_rfl) (.none (by kernel_rfl)) (.seq (by kernel_rfl) (by kernel_rfl) (.seq (by kernel_rfl) (by kernel_rfl) (.none (by kernel_rfl)) (.block 0 (by kernel_rfl) (.loop (by kernel_rfl) (by
      intro e a w hr h
      cases e with
      | exit i => (replace h : if i = 0 then f79_MX0_0 qb window key JX0_0 [] a w else False := cast_of (by kernel_rfl) h); (refine ite_elim h (fun hi h => by subst hi; exact f79_MX0_0.el (qb := qb) (window := window) (key := key) (C := fun a w => (_ : Exit → Env → World → Prop) (.exit 0) ⟨a, []⟩ w) h fun ds sum_7 hJ => cast_of (by kernel_rfl) (exit0_0 sum_7 w hJ)) (fun _ h => ?_); exact h.elim)
      | ret => exact absurd rfl hr
      | _ => exact (cast_of (q := False) (by kernel_rfl) h).elim)
      (fun _ _ h => cast_of (by kernel_rfl) h)
      (fun _ _ _ h => cast_of (by kernel_rfl) h)
      (fun m4 a w h => f79_I0.el (qb := qb) (window := window) (key := key) (C := fun a w => (f79_K R qb window key JL0 VL0 JX0_0 JA8).var [] 0 a w = m4 → vcE Tryz.prog bodied f79_pl (f79_K R qb window key JL0 VL0 JX0_0 JA8) (m4 :: []) 0 _ _ ⟨a, []⟩ w) (cast_of (q := f79_I0 qb window key JL0 [] a w) (by kernel_rfl) h) fun ds sum_7 x_22A x_22n x_22c x_23 x_24 hJ hm => cast_of (by kernel_rfl) (round0 sum_7 x_22A x_22n x_22c x_23 x_24 w m4 hJ (cast_of (by kernel_rfl) hm)))
      (fun m4 => (.seq (by kernel_rfl) (by kernel_rfl) (.none (by kernel_rfl)) (.seq (by kernel_rfl) (by kernel_rfl) (.none (by kernel_rfl)) (.seq (by kernel_rfl) (by kernel_rfl) (.block 1 (by kernel_rfl) (.seq (by kernel_rfl) (by kernel_rfl) (.none (by kernel_rfl)) (.seq (by kernel_rfl) (by kernel_rfl) (.none (by kernel_rfl)) (.cut (f79_MA8 qb window key JA8) (by kernel_rfl) (by kernel_rfl) (fun a w h => f79_MA8.el (qb := qb) (window := window) (key := key) (C := fun a w => vcE Tryz.prog bodied f79_pl (f79_K R qb window key JL0 VL0 JX0_0 JA8) [m4] 1 _ _ ⟨a, []⟩ w) h fun ds sum_7 w_9b x_22A x_22n x_22c x_23 x_24 x_46 hJ => cast_of (by kernel_rfl) (after8 m4 sum_7 w_9b x_22A x_22n x_22c x_23 x_24 x_46 w hJ)) (.none (by kernel_rfl)) (.none (by kernel_rfl)))))) (.none (by kernel_rfl))))))))) (.none (by kernel_rfl)))))))
    (cast_of (by kernel_rfl) entry)

/- heavykeys/sat.Add -/
def f102_K (R : Ending → World → Prop) (a_ b_ : Int) : Ann where
  inv := fun g b a w => False
  out := fun g b e a w => match e with | .exit i => False | .ret => RetQ Tryz.prog Tryz.f102 R .ret a w | _ => False
  var := fun g b a w => 0
  after := fun r => none
  before := fun r => none
def f102_pl : Plans := fun | _ => (.done, [])
theorem f102_vc {R : Ending → World → Prop} {a_ b_ : Int} {w : World}
    (entry : ∃ n2 : Int, ∃ n3 : Int, ∃ w1, (callFunc 163 #[.int .u64 a_, .int .u64 b_, .int .u64 0]).run Tryz.prog w = .ok (.value (.tuple #[.int .u64 n2, .int .u64 n3])) w1 ∧ CondQ (n3 != 0) (R (.returned (.tuple #[.int .u64 18446744073709551615, .bool false])) w1) (R (.returned (.tuple #[.int .u64 n2, .bool true])) w1)) : Calls Tryz.prog 102 #[.int .u64 a_, .int .u64 b_] w R :=
  calls_of_vc (B := bodied) (pl := f102_pl) (K := f102_K R a_ b_) follows_mixed bodied_ok Tryz.func102 (c := codeOf Tryz.f102) (by kernel_rfl) (by kernel_rfl) (fun _ _ _ _ => (by kernel_rfl))
    ((.none (by kernel_rfl)))
    (cast_of (by kernel_rfl) entry)

end Go.Proofs.YtdaookipaknoeaaGreat
