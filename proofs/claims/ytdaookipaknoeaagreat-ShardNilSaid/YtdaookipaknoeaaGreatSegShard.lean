/-
  Conditions of functions, printed by gen.py (see NOTES).
-/
import Derived.Test.YtdaookipaknoeaaGreatBase
namespace Go.Proofs.YtdaookipaknoeaaGreat
open Go
set_option linter.unusedVariables false

/- heavykeys/shard.New -/
def f28_K (R : Ending → World → Prop) (a_b pb : Nat) (ccs : Array Value) : Ann where
  inv := fun g b a w => False
  out := fun g b e a w => match e with | .exit i => False | .ret => RetQ Tryz.prog Tryz.f28 R .ret a w | _ => False
  var := fun g b a w => 0
  after := fun r => none
  before := fun r => none
def f28_pl : Plans := fun | _ => (.done, [])
theorem f28_vc {R : Ending → World → Prop} {a_b pb : Nat} {ccs : Array Value} {w : World}
    (entry : AllocQ w 30 ccs fun b1 w2 => ∃ n3 : Int, w2.cell? ⟨b1, 5, none⟩ = some (.int .i64 n3) ∧ Calls Tryz.prog 76 #[.pointer (some ⟨a_b, 0, none⟩), .pointer (some ⟨pb, 0, none⟩), .int .i64 n3] w2 fun e4 w5 => ∃ p6 : Option Addr, ∃ n7 : Int, e4 = .returned (.tuple #[.pointer p6, .int .i64 n7]) ∧ CondQ (n7 != 0) (R (.returned (.tuple #[.pointer none, .int .i64 n7])) w5) (∃ cs8 : Array Value, LoadsA w5 ⟨b1, 0, none⟩ 17 cs8 ∧ ∃ r10 : Option Nat, ∃ w9, (Instr.makeMap 128 none).run Tryz.prog w5 = .ok (.map r10) w9 ∧ (cs8 : Array Value).size = 17 ∧ AllocQ w9 130 (setL (setL (setL #[.pointer (some ⟨a_b, 0, none⟩), .pointer (some ⟨pb, 0, none⟩), .int .i64 0, .int .i64 0, .int .i64 0, .int .i64 0, .int .i64 0, .int .i64 0, .int .i64 0, .int .i64 0, .int .i64 0, .int .u64 0, .int .i64 0, .int .i64 0, .int .i64 0, .int .i64 0, .slice none 0 0, .slice none 0 0, .int .u64 0, .pointer none, .map none] 2 (Array.toList cs8)) 19 ([.pointer p6])) 20 ([.map r10])) fun b11 w12 => R (.returned (.tuple #[.pointer (some ⟨b11, 0, none⟩), .int .i64 0])) w12)) : Calls Tryz.prog 28 #[.pointer (some ⟨a_b, 0, none⟩), .pointer (some ⟨pb, 0, none⟩), .agg ccs] w R :=
  calls_of_vc (B := bodied) (pl := f28_pl) (K := f28_K R a_b pb ccs) follows_mixed bodied_ok Tryz.func28 (c := codeOf Tryz.f28) (by kernel_rfl) (by kernel_rfl) (fun _ _ _ _ => (by kernel_rfl))
    ((.none (by kernel_rfl)))
    (cast_of (by kernel_rfl) entry)

/- (*heavykeys/shard.Shard).Push -/
def f15_K (R : Ending → World → Prop) (sb : Nat) (window : Int) (xcs : Array Value) : Ann where
  inv := fun g b a w => False
  out := fun g b e a w => match e with | .exit i => False | .ret => RetQ Tryz.prog Tryz.f15 R .ret a w | _ => False
  var := fun g b a w => 0
  after := fun r => none
  before := fun r => none
def f15_pl : Plans := fun | 3 => (.val 0 <| .val 1 <| .val 2 <| .val 4 <| .ld 3 [[6]] <| .ld 5 [[6]] <| .eff 6 <| .val 7 <| .done, [6]) | _ => (.done, [])
theorem f15_vc {R : Ending → World → Prop} {sb : Nat} {window : Int} {xcs : Array Value} {w : World}
    (entry : AllocQ w 49 xcs fun b1 w2 => ∃ p3 : Option Addr, w2.drew.cell? ⟨sb, 19, none⟩ = some (.pointer p3) ∧ ∃ cs4 : Array Value, LoadsA w2.drew ⟨b1, 0, none⟩ 3 cs4 ∧ Calls Tryz.prog 53 #[.pointer p3, .int .i64 window, .agg cs4] w2.drew fun e5 w6 => ∃ n7 : Int, e5 = .returned (.int .i64 n7) ∧ R (.returned (.int .i64 n7)) w6) : Calls Tryz.prog 15 #[.pointer (some ⟨sb, 0, none⟩), .int .i64 window, .agg xcs] w R :=
  calls_of_vc (B := bodied) (pl := f15_pl) (K := f15_K R sb window xcs) follows_mixed bodied_ok Tryz.func15 (c := codeOf Tryz.f15) (by kernel_rfl) (by kernel_rfl) (fun _ _ _ _ => (by kernel_rfl))
    ((.none (by kernel_rfl)))
    (cast_of (by kernel_rfl) entry)

/- (*heavykeys/shard.Shard).Drain -/
def f18_I0 (sb : Nat) (window : Int) (JL0 : List Nat → Int → Int → Int → Int → World → Prop) (g : List Nat) (a : Act) (w : World) : Prop := sizeS 32 a (intS .i64 (a.tmps.getD 6 undef) fun n_6 => intS .i64 (a.tmps.getD 7 undef) fun first_7 => intS .i64 (a.tmps.getD 18 undef) fun x_18 => intS .i64 (a.tmps.getD 19 undef) fun x_19 => a.tmps.getD 0 undef = (.pointer (some ⟨sb, 0, none⟩) : Value) ∧ JL0 g n_6 first_7 x_18 x_19 w)
theorem f18_I0.el {sb : Nat} {window : Int} {JL0 : List Nat → Int → Int → Int → Int → World → Prop} {g : List Nat} {a : Act} {w : World} {C : Act → World → Prop} (h : f18_I0 sb window JL0 g a w) (H : ∀ (ds : Nat → Value) (n_6 first_7 x_18 x_19 : Int), JL0 g n_6 first_7 x_18 x_19 w → C (frameD ds 32 [(0, .pointer (some ⟨sb, 0, none⟩)), (6, .int .i64 n_6), (7, .int .i64 first_7), (18, .int .i64 x_18), (19, .int .i64 x_19)]) w) : C a w :=
  have h := sizeS.out h; have hs := h.1; have h := h.2; Exists.elim (intS.out h) fun n_6 h => have q6 := h.1; have h := h.2; Exists.elim (intS.out h) fun first_7 h => have q7 := h.1; have h := h.2; Exists.elim (intS.out h) fun x_18 h => have q18 := h.1; have h := h.2; Exists.elim (intS.out h) fun x_19 h => have q19 := h.1; have h := h.2; have q0 := h.1; have h := h.2; el_of (l := [(0, .pointer (some ⟨sb, 0, none⟩)), (6, .int .i64 n_6), (7, .int .i64 first_7), (18, .int .i64 x_18), (19, .int .i64 x_19)]) hs (⟨q0, q6, q7, q18, q19, trivial⟩) (H _ n_6 first_7 x_18 x_19 h)
def f18_MX0_0 (sb : Nat) (window : Int) (JX0_0 : List Nat → Int → Int → World → Prop) (g : List Nat) (a : Act) (w : World) : Prop := sizeS 32 a (intS .i64 (a.tmps.getD 6 undef) fun n_6 => intS .i64 (a.tmps.getD 7 undef) fun first_7 => JX0_0 g n_6 first_7 w)
theorem f18_MX0_0.el {sb : Nat} {window : Int} {JX0_0 : List Nat → Int → Int → World → Prop} {g : List Nat} {a : Act} {w : World} {C : Act → World → Prop} (h : f18_MX0_0 sb window JX0_0 g a w) (H : ∀ (ds : Nat → Value) (n_6 first_7 : Int), JX0_0 g n_6 first_7 w → C (frameD ds 32 [(6, .int .i64 n_6), (7, .int .i64 first_7)]) w) : C a w :=
  have h := sizeS.out h; have hs := h.1; have h := h.2; Exists.elim (intS.out h) fun n_6 h => have q6 := h.1; have h := h.2; Exists.elim (intS.out h) fun first_7 h => have q7 := h.1; have h := h.2; el_of (l := [(6, .int .i64 n_6), (7, .int .i64 first_7)]) hs (⟨q6, q7, trivial⟩) (H _ n_6 first_7 h)
def f18_K (R : Ending → World → Prop) (sb : Nat) (window : Int) (JL0 : List Nat → Int → Int → Int → Int → World → Prop) (VL0 : List Nat → Int → Int → Int → Int → World → Nat) (JX0_0 : List Nat → Int → Int → World → Prop) : Ann where
  inv := fun g b a w => if b = 0 then f18_I0 sb window JL0 g a w else False
  out := fun g b e a w => match e with | .exit i => if b = 0 then (if i = 0 then f18_MX0_0 sb window JX0_0 g a w else False) else False | .ret => RetQ Tryz.prog Tryz.f18 R .ret a w | _ => False
  var := fun g b a w => if b = 0 then VL0 g (slotI a 6) (slotI a 7) (slotI a 18) (slotI a 19) w else 0
  after := fun r => none
  before := fun r => none
def f18_pl : Plans := fun | _ => (.done, [])
theorem f18_vc {R : Ending → World → Prop} {sb : Nat} {window : Int} {w : World} (JL0 : List Nat → Int → Int → Int → Int → World → Prop) (VL0 : List Nat → Int → Int → Int → Int → World → Nat) (JX0_0 : List Nat → Int → Int → World → Prop)
    (round0 : ∀ (n_6 first_7 x_18 x_19 : Int) (w5 : World) (m6 : Nat), JL0 [] n_6 first_7 x_18 x_19 w5 → VL0 [] n_6 first_7 x_18 x_19 w5 = m6 → CondQ (decide (x_19 < x_18)) (Calls Tryz.prog 16 #[.pointer (some ⟨sb, 0, none⟩)] w5 fun e7 w8 => ∃ b9 : Bool, ∃ n10 : Int, e7 = .returned (.tuple #[.bool b9, .int .i64 n10]) ∧ CondQ (first_7 == 0) (((.pointer (some ⟨sb, 0, none⟩) : Value) = .pointer (some ⟨sb, 0, none⟩) ∧ JL0 [] n_6 n10 x_18 (IntKind.wrap .i64 (x_19 + 1)) w8) ∧ VL0 [] n_6 n10 x_18 (IntKind.wrap .i64 (x_19 + 1)) w8 < m6) (((.pointer (some ⟨sb, 0, none⟩) : Value) = .pointer (some ⟨sb, 0, none⟩) ∧ JL0 [] n_6 first_7 x_18 (IntKind.wrap .i64 (x_19 + 1)) w8) ∧ VL0 [] n_6 first_7 x_18 (IntKind.wrap .i64 (x_19 + 1)) w8 < m6)) (JX0_0 [] n_6 first_7 w5))
    (exit0_0 : ∀ (n_6 first_7 : Int) (w11 : World), JX0_0 [] n_6 first_7 w11 → R (.returned (.tuple #[.int .i64 n_6, .int .i64 first_7])) w11)
    (entry : ∃ p1 : Option Addr, w.cell? ⟨sb, 19, none⟩ = some (.pointer p1) ∧ Calls Tryz.prog 63 #[.pointer p1, .int .i64 window] w fun e2 w3 => ∃ n4 : Int, e2 = .returned (.int .i64 n4) ∧ (.pointer (some ⟨sb, 0, none⟩) : Value) = .pointer (some ⟨sb, 0, none⟩) ∧ JL0 [] n4 0 n4 0 w3) : Calls Tryz.prog 18 #[.pointer (some ⟨sb, 0, none⟩), .int .i64 window] w R :=
  calls_of_vc (B := bodied) (pl := f18_pl) (K := f18_K R sb window JL0 VL0 JX0_0) follows_mixed bodied_ok Tryz.func18 (c := codeOf Tryz.f18) (by kernel_rfl) (by kernel_rfl) (fun _ _ _ _ => (by kernel_rfl))
    ((.seq (by kernel_rfl) (by kernel_rfl) (.none (by kernel_rfl)) (.seq (by kernel_rfl) (by kernel_rfl) (.none (by kernel_rfl)) (.seq (by kernel_rfl) (by kernel_rfl) (.none (by kernel_rfl)) (.seq (by kernel_rfl) (by kernel_rfl) (.seq (by kernel_rfl) (by kernel_rfl) (.none (by kernel_rfl)) (.block 0 (by kernel_rfl) (.loop (by kernel_rfl) (by
      intro e a w hr h
      cases e with
      | exit i => (replace h : if i = 0 then f18_MX0_0 sb window JX0_0 [] a w else False := cast_of (by kernel_rfl) h); (refine ite_elim h (fun hi h => by subst hi; exact f18_MX0_0.el (sb := sb) (window := window) (C := fun a w => (_ : Exit → Env → World → Prop) (.exit 0) ⟨a, []⟩ w) h fun ds n_6 first_7 hJ => cast_of (by kernel_rfl) (exit0_0 n_6 first_7 w hJ)) (fun _ h => ?_); exact h.elim)
      | ret => exact absurd rfl hr
      | _ => exact (cast_of (q := False) (by kernel_rfl) h).elim)
      (fun _ _ h => cast_of (by kernel_rfl) h)
      (fun _ _ _ h => cast_of (by kernel_rfl) h)
      (fun m6 a w h => f18_I0.el (sb := sb) (window := window) (C := fun a w => (f18_K R sb window JL0 VL0 JX0_0).var [] 0 a w = m6 → vcE Tryz.prog bodied f18_pl (f18_K R sb window JL0 VL0 JX0_0) (m6 :: []) 0 _ _ ⟨a, []⟩ w) (cast_of (q := f18_I0 sb window JL0 [] a w) (by kernel_rfl) h) fun ds n_6 first_7 x_18 x_19 hJ hm => cast_of (by kernel_rfl) (round0 n_6 first_7 x_18 x_19 w m6 hJ (cast_of (by kernel_rfl) hm)))
      (fun m6 => (.none (by kernel_rfl)))))) (.none (by kernel_rfl)))))))
    (cast_of (by kernel_rfl) entry)

/- (*heavykeys/shard.Shard).Len -/
def f19_K (R : Ending → World → Prop) (sb : Nat) : Ann where
  inv := fun g b a w => False
  out := fun g b e a w => match e with | .exit i => False | .ret => RetQ Tryz.prog Tryz.f19 R .ret a w | _ => False
  var := fun g b a w => 0
  after := fun r => none
  before := fun r => none
def f19_pl : Plans := fun | _ => (.done, [])
theorem f19_vc {R : Ending → World → Prop} {sb : Nat} {w : World}
    (entry : ∃ p1 : Option Addr, w.cell? ⟨sb, 19, none⟩ = some (.pointer p1) ∧ Calls Tryz.prog 64 #[.pointer p1] w fun e2 w3 => ∃ n4 : Int, e2 = .returned (.int .i64 n4) ∧ R (.returned (.int .i64 n4)) w3) : Calls Tryz.prog 19 #[.pointer (some ⟨sb, 0, none⟩)] w R :=
  calls_of_vc (B := bodied) (pl := f19_pl) (K := f19_K R sb) follows_mixed bodied_ok Tryz.func19 (c := codeOf Tryz.f19) (by kernel_rfl) (by kernel_rfl) (fun _ _ _ _ => (by kernel_rfl))
    ((.none (by kernel_rfl)))
    (cast_of (by kernel_rfl) entry)

/- (*heavykeys/shard.Shard).Queued -/
def f31_K (R : Ending → World → Prop) (sb : Nat) (window : Int) (key : ByteArray) : Ann where
  inv := fun g b a w => False
  out := fun g b e a w => match e with | .exit i => False | .ret => RetQ Tryz.prog Tryz.f31 R .ret a w | _ => False
  var := fun g b a w => 0
  after := fun r => none
  before := fun r => none
def f31_pl : Plans := fun | _ => (.done, [])
theorem f31_vc {R : Ending → World → Prop} {sb : Nat} {window : Int} {key : ByteArray} {w : World}
    (entry : ∃ p1 : Option Addr, w.cell? ⟨sb, 19, none⟩ = some (.pointer p1) ∧ Calls Tryz.prog 79 #[.pointer p1, .int .i64 window, .string key] w fun e2 w3 => ∃ n4 : Int, e2 = .returned (.int .u64 n4) ∧ R (.returned (.int .u64 n4)) w3) : Calls Tryz.prog 31 #[.pointer (some ⟨sb, 0, none⟩), .int .i64 window, .string key] w R :=
  calls_of_vc (B := bodied) (pl := f31_pl) (K := f31_K R sb window key) follows_mixed bodied_ok Tryz.func31 (c := codeOf Tryz.f31) (by kernel_rfl) (by kernel_rfl) (fun _ _ _ _ => (by kernel_rfl))
    ((.none (by kernel_rfl)))
    (cast_of (by kernel_rfl) entry)

/- heavykeys/heavykeysref25.NewShard -/
def f44_K (R : Ending → World → Prop) (ccs : Array Value) : Ann where
  inv := fun g b a w => False
  out := fun g b e a w => match e with | .exit i => False | .ret => RetQ Tryz.prog Tryz.f44 R .ret a w | _ => False
  var := fun g b a w => 0
  after := fun r => none
  before := fun r => none
def f44_pl : Plans := fun | _ => (.done, [])
theorem f44_vc {R : Ending → World → Prop} {ccs : Array Value} {w : World}
    (entry : AllocQ w 30 ccs fun b1 w2 => ∃ cs3 : Array Value, LoadsA w2 ⟨b1, 0, none⟩ 17 cs3 ∧ (cs3 : Array Value).size = 17 ∧ AllocQ w2 86 (setL #[.int .i64 0, .int .i64 0, .int .i64 0, .int .i64 0, .int .i64 0, .int .i64 0, .int .i64 0, .int .i64 0, .int .i64 0, .int .u64 0, .int .i64 0, .int .i64 0, .int .i64 0, .int .i64 0, .slice none 0 0, .slice none 0 0, .int .u64 0, .slice none 0 0, .slice none 0 0, .slice none 0 0] 0 (Array.toList cs3)) fun b4 w5 => R (.returned (.pointer (some ⟨b4, 0, none⟩))) w5) : Calls Tryz.prog 44 #[.agg ccs] w R :=
  calls_of_vc (B := bodied) (pl := f44_pl) (K := f44_K R ccs) follows_mixed bodied_ok Tryz.func44 (c := codeOf Tryz.f44) (by kernel_rfl) (by kernel_rfl) (fun _ _ _ _ => (by kernel_rfl))
    ((.none (by kernel_rfl)))
    (cast_of (by kernel_rfl) entry)

/- heavykeys/heavykeyslaw29.two -/
def f8_K (R : Ending → World → Prop) (db : Nat) : Ann where
  inv := fun g b a w => False
  out := fun g b e a w => match e with | .exit i => False | .ret => RetQ Tryz.prog Tryz.f8 R .ret a w | _ => False
  var := fun g b a w => 0
  after := fun r => none
  before := fun r => none
def f8_pl : Plans := fun | 5 => (.val 1 <| .val 2 <| .val 5 <| .val 6 <| .ld 0 [[23]] <| .ld 3 [[4], [4, 7, 11, 15, 19, 23]] <| .eff 4 <| .val 7 <| .val 8 <| .val 9 <| .val 10 <| .val 11 <| .val 12 <| .val 13 <| .val 14 <| .val 15 <| .val 16 <| .val 17 <| .val 18 <| .val 19 <| .val 20 <| .val 21 <| .val 22 <| .eff 23 <| .val 24 <| .val 25 <| .val 26 <| .val 27 <| .done, [4, 23]) | _ => (.done, [])
theorem f8_vc {R : Ending → World → Prop} {db : Nat} {w : World}
    (entry : AllocQ w 30 #[.int .i64 0, .int .i64 0, .int .i64 0, .int .i64 0, .int .i64 0, .int .i64 0, .int .i64 0, .int .i64 0, .int .i64 0, .int .u64 0, .int .i64 0, .int .i64 0, .int .i64 0, .int .i64 0, .slice none 0 0, .slice none 0 0, .int .u64 0] fun b1 w2 => Calls Tryz.prog 27 #[.pointer (some ⟨db, 0, none⟩)] w2 fun e3 w4 => ∃ cs5 : Array Value, e3 = .returned (.agg cs5) ∧ AllocQ w4 30 #[.int .i64 0, .int .i64 0, .int .i64 0, .int .i64 0, .int .i64 0, .int .i64 0, .int .i64 0, .int .i64 0, .int .i64 0, .int .u64 0, .int .i64 0, .int .i64 0, .int .i64 0, .int .i64 0, .slice none 0 0, .slice none 0 0, .int .u64 0] fun b6 w7 => (cs5 : Array Value).size = 17 ∧ StoreQ w7 ⟨b6, 0, none⟩ cs5.toList fun w8 => Calls Tryz.prog 10 #[] w8 fun e9 w10 => ∃ (A11 : Option Addr) (m11 c11 : Nat), e9 = .returned (.slice A11 m11 c11) ∧ Calls Tryz.prog 9 #[.slice A11 m11 c11] w10 fun e12 w13 => ∃ p14 : Option Addr, ∃ n15 : Int, e12 = .returned (.tuple #[.pointer p14, .int .i64 n15]) ∧ Calls Tryz.prog 11 #[.pointer p14, .int .i64 900] w13 fun e16 w17 => ∃ p18 : Option Addr, ∃ n19 : Int, e16 = .returned (.tuple #[.pointer p18, .int .i64 n19]) ∧ ∃ cs20 : Array Value, LoadsA w17 ⟨b6, 0, none⟩ 17 cs20 ∧ Calls Tryz.prog 28 #[.pointer p14, .pointer p18, .agg cs20] w17 fun e21 w22 => ∃ p23 : Option Addr, ∃ n24 : Int, e21 = .returned (.tuple #[.pointer p23, .int .i64 n24]) ∧ ∃ cs25 : Array Value, LoadsA w22.drew ⟨b6, 0, none⟩ 17 cs25 ∧ ∃ cs26 : Array Value, LoadsA w22.drew ⟨b6, 0, none⟩ 17 cs26 ∧ Calls Tryz.prog 44 #[.agg cs26] w22.drew fun e27 w28 => ∃ p29 : Option Addr, e27 = .returned (.pointer p29) ∧ LoadsA w28 ⟨b6, 0, none⟩ 17 cs25 ∧ CondQ (n15 == 0) (CondQ (n19 == 0) (CondQ (n24 == 0) (CondQ (!((p14).isNone)) ((cs25 : Array Value).size = 17 ∧ StoreQ w28 ⟨b1, 0, none⟩ cs25.toList fun w30 => ∃ cs31 : Array Value, LoadsA w30 ⟨b1, 0, none⟩ 17 cs31 ∧ R (.returned (.tuple #[.agg cs31, .pointer p14, .pointer p23, .pointer p29, .bool (!((p23).isNone))])) w30) ((cs25 : Array Value).size = 17 ∧ StoreQ w28 ⟨b1, 0, none⟩ cs25.toList fun w32 => ∃ cs33 : Array Value, LoadsA w32 ⟨b1, 0, none⟩ 17 cs33 ∧ R (.returned (.tuple #[.agg cs33, .pointer p14, .pointer p23, .pointer p29, .bool false])) w32)) ((cs25 : Array Value).size = 17 ∧ StoreQ w28 ⟨b1, 0, none⟩ cs25.toList fun w34 => ∃ cs35 : Array Value, LoadsA w34 ⟨b1, 0, none⟩ 17 cs35 ∧ R (.returned (.tuple #[.agg cs35, .pointer p14, .pointer p23, .pointer p29, .bool false])) w34)) ((cs25 : Array Value).size = 17 ∧ StoreQ w28 ⟨b1, 0, none⟩ cs25.toList fun w36 => ∃ cs37 : Array Value, LoadsA w36 ⟨b1, 0, none⟩ 17 cs37 ∧ R (.returned (.tuple #[.agg cs37, .pointer p14, .pointer p23, .pointer p29, .bool false])) w36)) ((cs25 : Array Value).size = 17 ∧ StoreQ w28 ⟨b1, 0, none⟩ cs25.toList fun w38 => ∃ cs39 : Array Value, LoadsA w38 ⟨b1, 0, none⟩ 17 cs39 ∧ R (.returned (.tuple #[.agg cs39, .pointer p14, .pointer p23, .pointer p29, .bool false])) w38)) : Calls Tryz.prog 8 #[.pointer (some ⟨db, 0, none⟩)] w R :=
  calls_of_vc (B := bodied) (pl := f8_pl) (K := f8_K R db) follows_mixed bodied_ok Tryz.func8 (c := codeOf Tryz.f8) (by kernel_rfl) (by kernel_rfl) (fun _ _ _ _ => (by kernel_rfl))
    ((.none (by kernel_rfl)))
    (cast_of (by kernel_rfl) entry)

/- heavykeys/heavykeyslaw29.awake -/
def f21_K (R : Ending → World → Prop) : Ann where
  inv := fun g b a w => False
  out := fun g b e a w => match e with | .exit i => False | .ret => RetQ Tryz.prog Tryz.f21 R .ret a w | _ => False
  var := fun g b a w => 0
  after := fun r => none
  before := fun r => none
def f21_pl : Plans := fun | _ => (.done, [])
theorem f21_vc {R : Ending → World → Prop} {w : World}
    (entry : Calls Tryz.prog 7 #[.slice none 0 0] w fun e1 w2 => ∃ p3 : Option Addr, e1 = .returned (.pointer p3) ∧ Calls Tryz.prog 8 #[.pointer p3] w2 fun e4 w5 => ∃ cs6 : Array Value, ∃ p7 : Option Addr, ∃ p8 : Option Addr, ∃ p9 : Option Addr, ∃ b10 : Bool, e4 = .returned (.tuple #[.agg cs6, .pointer p7, .pointer p8, .pointer p9, .bool b10]) ∧ AllocQ w5 30 #[.int .i64 0, .int .i64 0, .int .i64 0, .int .i64 0, .int .i64 0, .int .i64 0, .int .i64 0, .int .i64 0, .int .i64 0, .int .u64 0, .int .i64 0, .int .i64 0, .int .i64 0, .int .i64 0, .slice none 0 0, .slice none 0 0, .int .u64 0] fun b11 w12 => (cs6 : Array Value).size = 17 ∧ StoreQ w12 ⟨b11, 0, none⟩ cs6.toList fun w13 => CondQ (!b10) (R (.returned (.bool false)) w13) (Calls Tryz.prog 15 #[.pointer p8, .int .i64 2, .agg #[.string ⟨#[97]⟩, .int .i64 0, .int .u64 1]] w13 fun e14 w15 => ∃ n16 : Int, e14 = .returned (.int .i64 n16) ∧ Calls Tryz.prog 18 #[.pointer p8, .int .i64 1] w15 fun e17 w18 => ∃ n19 : Int, ∃ n20 : Int, e17 = .returned (.tuple #[.int .i64 n19, .int .i64 n20]) ∧ Calls Tryz.prog 30 #[.pointer p8, .int .i64 2] w18 fun e21 w22 => ∃ n23 : Int, ∃ n24 : Int, ∃ n25 : Int, e21 = .returned (.tuple #[.int .u64 n23, .int .u64 n24, .int .u64 n25]) ∧ CondQ (n19 == 0) (CondQ (n20 == 0) (Calls Tryz.prog 19 #[.pointer p8] w22 fun e26 w27 => ∃ n28 : Int, e26 = .returned (.int .i64 n28) ∧ CondQ (n28 == 1) (CondQ (n23 == 0) (CondQ (n24 == 0) (Calls Tryz.prog 31 #[.pointer p8, .int .i64 2, .string ⟨#[97]⟩] w27 fun e29 w30 => ∃ n31 : Int, e29 = .returned (.int .u64 n31) ∧ R (.returned (.bool (n31 == 1))) w30) (R (.returned (.bool false)) w27)) (R (.returned (.bool false)) w27)) (R (.returned (.bool false)) w27)) (R (.returned (.bool false)) w22)) (R (.returned (.bool false)) w22))) : Calls Tryz.prog 21 #[] w R :=
  calls_of_vc (B := bodied) (pl := f21_pl) (K := f21_K R) follows_mixed bodied_ok Tryz.func21 (c := codeOf Tryz.f21) (by kernel_rfl) (by kernel_rfl) (fun _ _ _ _ => (by kernel_rfl))
    ((.none (by kernel_rfl)))
    (cast_of (by kernel_rfl) entry)

/- heavykeys/heavykeyslaw29.ShardNil -/
def f5_K (R : Ending → World → Prop) (deckA : Option Addr) (deckn deckc : Nat) (w_ : Int) : Ann where
  inv := fun g b a w => False
  out := fun g b e a w => match e with | .exit i => False | .ret => RetQ Tryz.prog Tryz.f5 R .ret a w | _ => False
  var := fun g b a w => 0
  after := fun r => none
  before := fun r => none
def f5_pl : Plans := fun | _ => (.done, [])
theorem f5_vc {R : Ending → World → Prop} {deckA : Option Addr} {deckn deckc : Nat} {w_ : Int} {w : World}
    (entry : Calls Tryz.prog 7 #[.slice deckA deckn deckc] w fun e1 w2 => ∃ p3 : Option Addr, e1 = .returned (.pointer p3) ∧ Calls Tryz.prog 27 #[.pointer p3] w2 fun e4 w5 => ∃ cs6 : Array Value, e4 = .returned (.agg cs6) ∧ AllocQ w5 30 #[.int .i64 0, .int .i64 0, .int .i64 0, .int .i64 0, .int .i64 0, .int .i64 0, .int .i64 0, .int .i64 0, .int .i64 0, .int .u64 0, .int .i64 0, .int .i64 0, .int .i64 0, .int .i64 0, .slice none 0 0, .slice none 0 0, .int .u64 0] fun b7 w8 => (cs6 : Array Value).size = 17 ∧ StoreQ w8 ⟨b7, 0, none⟩ cs6.toList fun w9 => ∃ cs10 : Array Value, LoadsA w9 ⟨b7, 0, none⟩ 17 cs10 ∧ Calls Tryz.prog 28 #[.pointer none, .pointer none, .agg cs10] w9 fun e11 w12 => ∃ p13 : Option Addr, ∃ n14 : Int, e11 = .returned (.tuple #[.pointer p13, .int .i64 n14]) ∧ Calls Tryz.prog 16 #[.pointer p13] w12 fun e15 w16 => ∃ b17 : Bool, ∃ n18 : Int, e15 = .returned (.tuple #[.bool b17, .int .i64 n18]) ∧ Calls Tryz.prog 18 #[.pointer p13, .int .i64 w_] w16 fun e19 w20 => ∃ n21 : Int, ∃ n22 : Int, e19 = .returned (.tuple #[.int .i64 n21, .int .i64 n22]) ∧ Calls Tryz.prog 29 #[.pointer p13, .int .i64 w_, .string ⟨#[97]⟩] w20 fun e23 w24 => ∃ cs25 : Array Value, ∃ b26 : Bool, e23 = .returned (.tuple #[.agg cs25, .bool b26]) ∧ AllocQ w24 75 #[.int .u64 0, .int .u64 0] fun b27 w28 => (cs25 : Array Value).size = 2 ∧ StoreQ w28 ⟨b27, 0, none⟩ cs25.toList fun w29 => Calls Tryz.prog 30 #[.pointer p13, .int .i64 w_] w29 fun e30 w31 => ∃ n32 : Int, ∃ n33 : Int, ∃ n34 : Int, e30 = .returned (.tuple #[.int .u64 n32, .int .u64 n33, .int .u64 n34]) ∧ CondQ ((p13).isNone) (CondQ (n14 == 8) (Calls Tryz.prog 15 #[.pointer p13, .int .i64 w_, .agg #[.string ⟨#[97]⟩, .int .i64 0, .int .u64 1]] w31 fun e35 w36 => ∃ n37 : Int, e35 = .returned (.int .i64 n37) ∧ CondQ (n37 == 8) (CondQ (!b17) (CondQ (n18 == 0) (CondQ (n21 == 0) (CondQ (n22 == 0) (Calls Tryz.prog 19 #[.pointer p13] w36 fun e38 w39 => ∃ n40 : Int, e38 = .returned (.int .i64 n40) ∧ CondQ (n40 == 0) (Calls Tryz.prog 24 #[.pointer p13] w39 fun e41 w42 => ∃ (A43 : Option Addr) (m43 c43 : Nat), e41 = .returned (.slice A43 m43 c43) ∧ CondQ (((m43 : Nat) : Int) == 0) (Calls Tryz.prog 31 #[.pointer p13, .int .i64 w_, .string ⟨#[97]⟩] w42 fun e44 w45 => ∃ n46 : Int, e44 = .returned (.int .u64 n46) ∧ CondQ (n46 == 0) (∃ cs47 : Array Value, LoadsA w45 ⟨b27, 0, none⟩ 2 cs47 ∧ ∃ b48 : Bool, EqQ Tryz.prog 75 cs47 #[.int .u64 0, .int .u64 0] b48 ∧ CondQ b48 (CondQ (!b26) (CondQ (n32 == 0) (CondQ (n33 == 0) (CondQ (n34 == 0) (Calls Tryz.prog 20 #[.pointer p13, .int .i64 w_] w45 fun e49 w50 => ∃ cs51 : Array Value, e49 = .returned (.agg cs51) ∧ ∃ n52 : Int, (cs51 : Array Value)[0]? = some (.int .u64 n52) ∧ CondQ (n52 == 0) (Calls Tryz.prog 25 #[.pointer p13, .int .i64 w_] w50 fun e53 w54 => ∃ b55 : Bool, e53 = .returned (.bool b55) ∧ CondQ (!b55) (Calls Tryz.prog 21 #[] w54 fun e56 w57 => ∃ b58 : Bool, e56 = .returned (.bool b58) ∧ R (.returned (.bool b58)) w57) (R (.returned (.bool false)) w54)) (R (.returned (.bool false)) w50)) (R (.returned (.bool false)) w45)) (R (.returned (.bool false)) w45)) (R (.returned (.bool false)) w45)) (R (.returned (.bool false)) w45)) (R (.returned (.bool false)) w45)) (R (.returned (.bool false)) w45)) (R (.returned (.bool false)) w42)) (R (.returned (.bool false)) w39)) (R (.returned (.bool false)) w36)) (R (.returned (.bool false)) w36)) (R (.returned (.bool false)) w36)) (R (.returned (.bool false)) w36)) (R (.returned (.bool false)) w36)) (R (.returned (.bool false)) w31)) (R (.returned (.bool false)) w31)) : Calls Tryz.prog 5 #[.slice deckA deckn deckc, .int .i64 w_] w R :=
  calls_of_vc (B := bodied) (pl := f5_pl) (K := f5_K R deckA deckn deckc w_) follows_mixed bodied_ok Tryz.func5 (c := codeOf Tryz.f5) (by kernel_rfl) (by kernel_rfl) (fun _ _ _ _ => (by kernel_rfl))
    ((.none (by kernel_rfl)))
    (cast_of (by kernel_rfl) entry)

/- (*heavykeys/shard.Shard).Ledger -/
def f30_K (R : Ending → World → Prop) (sb : Nat) (window : Int) : Ann where
  inv := fun g b a w => False
  out := fun g b e a w => match e with | .exit i => False | .ret => RetQ Tryz.prog Tryz.f30 R .ret a w | _ => False
  var := fun g b a w => 0
  after := fun r => none
  before := fun r => none
def f30_pl : Plans := fun | _ => (.done, [])
theorem f30_vc {R : Ending → World → Prop} {sb : Nat} {window : Int} {w : World}
    (entry : Calls Tryz.prog 65 #[.pointer (some ⟨sb, 0, none⟩), .int .i64 window] w fun e1 w2 => ∃ p3 : Option Addr, e1 = .returned (.pointer p3) ∧ Calls Tryz.prog 78 #[.pointer p3] w2 fun e4 w5 => ∃ n6 : Int, ∃ n7 : Int, ∃ n8 : Int, e4 = .returned (.tuple #[.int .u64 n6, .int .u64 n7, .int .u64 n8]) ∧ R (.returned (.tuple #[.int .u64 n6, .int .u64 n7, .int .u64 n8])) w5) : Calls Tryz.prog 30 #[.pointer (some ⟨sb, 0, none⟩), .int .i64 window] w R :=
  calls_of_vc (B := bodied) (pl := f30_pl) (K := f30_K R sb window) follows_mixed bodied_ok Tryz.func30 (c := codeOf Tryz.f30) (by kernel_rfl) (by kernel_rfl) (fun _ _ _ _ => (by kernel_rfl))
    ((.none (by kernel_rfl)))
    (cast_of (by kernel_rfl) entry)

/- (*heavykeys/shard.Shard).tier -/
def f65_K (R : Ending → World → Prop) (sb : Nat) (window : Int) : Ann where
  inv := fun g b a w => False
  out := fun g b e a w => match e with | .exit i => False | .ret => RetQ Tryz.prog Tryz.f65 R .ret a w | _ => False
  var := fun g b a w => 0
  after := fun r => none
  before := fun r => none
def f65_pl : Plans := fun | _ => (.done, [])
theorem f65_vc {R : Ending → World → Prop} {sb : Nat} {window : Int} {w : World}
    (entry : ∃ r1 : Option Nat, w.cell? ⟨sb, 20, none⟩ = some (.map r1) ∧ ∃ p2 : Option Addr, (Instr.lookup 128 (.map r1) (.int .i64 window) false).run Tryz.prog w = .ok (.pointer p2) w ∧ R (.returned (.pointer p2)) w) : Calls Tryz.prog 65 #[.pointer (some ⟨sb, 0, none⟩), .int .i64 window] w R :=
  calls_of_vc (B := bodied) (pl := f65_pl) (K := f65_K R sb window) follows_mixed bodied_ok Tryz.func65 (c := codeOf Tryz.f65) (by kernel_rfl) (by kernel_rfl) (fun _ _ _ _ => (by kernel_rfl))
    ((.none (by kernel_rfl)))
    (cast_of (by kernel_rfl) entry)

/- (*heavykeys/shard.Shard).Summary -/
def f20_K (R : Ending → World → Prop) (sb : Nat) (window : Int) : Ann where
  inv := fun g b a w => False
  out := fun g b e a w => match e with | .exit i => False | .ret => RetQ Tryz.prog Tryz.f20 R .ret a w | _ => False
  var := fun g b a w => 0
  after := fun r => none
  before := fun r => none
def f20_pl : Plans := fun | _ => (.done, [])
theorem f20_vc {R : Ending → World → Prop} {sb : Nat} {window : Int} {w : World}
    (entry : AllocQ w 60 #[.int .u64 0, .slice none 0 0, .int .u64 0, .slice none 0 0] fun b1 w2 => Calls Tryz.prog 65 #[.pointer (some ⟨sb, 0, none⟩), .int .i64 window] w2 fun e3 w4 => ∃ p5 : Option Addr, e3 = .returned (.pointer p5) ∧ Calls Tryz.prog 23 #[.pointer p5] w4 fun e6 w7 => ∃ cs8 : Array Value, e6 = .returned (.agg cs8) ∧ (cs8 : Array Value).size = 4 ∧ StoreQ w7 ⟨b1, 0, none⟩ cs8.toList fun w9 => ∃ cs10 : Array Value, LoadsA w9 ⟨b1, 0, none⟩ 4 cs10 ∧ R (.returned (.agg cs10)) w9) : Calls Tryz.prog 20 #[.pointer (some ⟨sb, 0, none⟩), .int .i64 window] w R :=
  calls_of_vc (B := bodied) (pl := f20_pl) (K := f20_K R sb window) follows_mixed bodied_ok Tryz.func20 (c := codeOf Tryz.f20) (by kernel_rfl) (by kernel_rfl) (fun _ _ _ _ => (by kernel_rfl))
    ((.none (by kernel_rfl)))
    (cast_of (by kernel_rfl) entry)

/- (*heavykeys/shard.Shard).Bounds -/
def f29_K (R : Ending → World → Prop) (sb : Nat) (window : Int) (key : ByteArray) : Ann where
  inv := fun g b a w => False
  out := fun g b e a w => match e with | .exit i => False | .ret => RetQ Tryz.prog Tryz.f29 R .ret a w | _ => False
  var := fun g b a w => 0
  after := fun r => none
  before := fun r => none
def f29_pl : Plans := fun | _ => (.done, [])
theorem f29_vc {R : Ending → World → Prop} {sb : Nat} {window : Int} {key : ByteArray} {w : World}
    (entry : AllocQ w 75 #[.int .u64 0, .int .u64 0] fun b1 w2 => Calls Tryz.prog 65 #[.pointer (some ⟨sb, 0, none⟩), .int .i64 window] w2 fun e3 w4 => ∃ p5 : Option Addr, e3 = .returned (.pointer p5) ∧ Calls Tryz.prog 77 #[.pointer p5, .string key] w4 fun e6 w7 => ∃ cs8 : Array Value, ∃ b9 : Bool, e6 = .returned (.tuple #[.agg cs8, .bool b9]) ∧ (cs8 : Array Value).size = 2 ∧ StoreQ w7 ⟨b1, 0, none⟩ cs8.toList fun w10 => ∃ cs11 : Array Value, LoadsA w10 ⟨b1, 0, none⟩ 2 cs11 ∧ R (.returned (.tuple #[.agg cs11, .bool b9])) w10) : Calls Tryz.prog 29 #[.pointer (some ⟨sb, 0, none⟩), .int .i64 window, .string key] w R :=
  calls_of_vc (B := bodied) (pl := f29_pl) (K := f29_K R sb window key) follows_mixed bodied_ok Tryz.func29 (c := codeOf Tryz.f29) (by kernel_rfl) (by kernel_rfl) (fun _ _ _ _ => (by kernel_rfl))
    ((.none (by kernel_rfl)))
    (cast_of (by kernel_rfl) entry)

end Go.Proofs.YtdaookipaknoeaaGreat
