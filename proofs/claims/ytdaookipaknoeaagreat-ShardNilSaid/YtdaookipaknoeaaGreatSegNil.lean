/-
  Conditions of functions, printed by gen.py (see NOTES).
-/
import Derived.Test.YtdaookipaknoeaaGreatBase
namespace Go.Proofs.YtdaookipaknoeaaGreat.Nil
open Go
set_option linter.unusedVariables false

/- (*heavykeys/shard.Shard).Push -/
def f15_K (R : Ending → World → Prop) (window : Int) (xcs : Array Value) : Ann where
  inv := fun g b a w => False
  out := fun g b e a w => match e with | .exit i => False | .ret => RetQ Tryz.prog Tryz.f15 R .ret a w | _ => False
  var := fun g b a w => 0
  after := fun r => none
  before := fun r => none
def f15_pl : Plans := fun | 3 => (.val 0 <| .val 1 <| .val 2 <| .val 4 <| .ld 3 [[6]] <| .ld 5 [[6]] <| .eff 6 <| .val 7 <| .done, [6]) | _ => (.done, [])
theorem f15_vc {R : Ending → World → Prop} {window : Int} {xcs : Array Value} {w : World}
    (entry : AllocQ w 49 xcs fun b1 w2 => R (.returned (.int .i64 8)) w2) : Calls Tryz.prog 15 #[.pointer none, .int .i64 window, .agg xcs] w R :=
  calls_of_vc (B := bodied) (pl := f15_pl) (K := f15_K R window xcs) follows_mixed bodied_ok Tryz.func15 (c := codeOf Tryz.f15) (by kernel_rfl) (by kernel_rfl) (fun _ _ _ _ => (by kernel_rfl))
    ((.none (by kernel_rfl)))
    (cast_of (by kernel_rfl) entry)

/- (*heavykeys/shard.Shard).Step -/
def f16_K (R : Ending → World → Prop) : Ann where
  inv := fun g b a w => False
  out := fun g b e a w => match e with | .exit i => False | .ret => RetQ Tryz.prog Tryz.f16 R .ret a w | _ => False
  var := fun g b a w => 0
  after := fun r => none
  before := fun r => none
def f16_pl : Plans := fun | 9 => (.val 0 <| .val 1 <| .val 2 <| .val 4 <| .val 5 <| .val 6 <| .val 8 <| .val 9 <| .val 10 <| .ld 3 [[12]] <| .ld 7 [[12]] <| .ld 11 [[12]] <| .eff 12 <| .val 13 <| .val 14 <| .val 15 <| .val 16 <| .val 17 <| .done, [12]) | _ => (.done, [])
theorem f16_vc {R : Ending → World → Prop} {w : World}
    (entry : R (.returned (.tuple #[.bool false, .int .i64 0])) w) : Calls Tryz.prog 16 #[.pointer none] w R :=
  calls_of_vc (B := bodied) (pl := f16_pl) (K := f16_K R) follows_mixed bodied_ok Tryz.func16 (c := codeOf Tryz.f16) (by kernel_rfl) (by kernel_rfl) (fun _ _ _ _ => (by kernel_rfl))
    ((.none (by kernel_rfl)))
    (cast_of (by kernel_rfl) entry)

/- (*heavykeys/shard.Shard).Drain -/
def f18_K (R : Ending → World → Prop) (window : Int) : Ann where
  inv := fun g b a w => False
  out := fun g b e a w => match e with | .exit i => False | .ret => RetQ Tryz.prog Tryz.f18 R .ret a w | _ => False
  var := fun g b a w => 0
  after := fun r => none
  before := fun r => none
def f18_pl : Plans := fun | _ => (.done, [])
theorem f18_vc {R : Ending → World → Prop} {window : Int} {w : World}
    (entry : R (.returned (.tuple #[.int .i64 0, .int .i64 0])) w) : Calls Tryz.prog 18 #[.pointer none, .int .i64 window] w R :=
  calls_of_vc (B := bodied) (pl := f18_pl) (K := f18_K R window) follows_mixed bodied_ok Tryz.func18 (c := codeOf Tryz.f18) (by kernel_rfl) (by kernel_rfl) (fun _ _ _ _ => (by kernel_rfl))
    ((.seq (by kernel_rfl) (by kernel_rfl) (.none (by kernel_rfl)) (.seq (by kernel_rfl) (by kernel_rfl) (.none (by kernel_rfl)) (.seq (by kernel_rfl) (by kernel_rfl) (.none (by kernel_rfl)) (.seq (by kernel_rfl) (by kernel_rfl) (.seq (by kernel_rfl) (by kernel_rfl) (.none (by kernel_rfl)) (.block 0 (by kernel_rfl) (.loop (by kernel_rfl) (fun e a w hr h => by cases e with
      | ret => exact absurd rfl hr
      | _ => exact (cast_of (q := False) (by kernel_rfl) h).elim) (fun _ _ h => cast_of (by kernel_rfl) h) (fun _ _ _ h => cast_of (by kernel_rfl) h) (fun z0 a w h _ => (cast_of (q := False) (by kernel_rfl) h).elim) (fun z0 => (.none (by kernel_rfl)))))) (.none (by kernel_rfl)))))))
    (cast_of (by kernel_rfl) entry)

/- (*heavykeys/shard.Shard).Len -/
def f19_K (R : Ending → World → Prop) : Ann where
  inv := fun g b a w => False
  out := fun g b e a w => match e with | .exit i => False | .ret => RetQ Tryz.prog Tryz.f19 R .ret a w | _ => False
  var := fun g b a w => 0
  after := fun r => none
  before := fun r => none
def f19_pl : Plans := fun | _ => (.done, [])
theorem f19_vc {R : Ending → World → Prop} {w : World}
    (entry : R (.returned (.int .i64 0)) w) : Calls Tryz.prog 19 #[.pointer none] w R :=
  calls_of_vc (B := bodied) (pl := f19_pl) (K := f19_K R) follows_mixed bodied_ok Tryz.func19 (c := codeOf Tryz.f19) (by kernel_rfl) (by kernel_rfl) (fun _ _ _ _ => (by kernel_rfl))
    ((.none (by kernel_rfl)))
    (cast_of (by kernel_rfl) entry)

/- (*heavykeys/shard.Shard).Queued -/
def f31_K (R : Ending → World → Prop) (window : Int) (key : ByteArray) : Ann where
  inv := fun g b a w => False
  out := fun g b e a w => match e with | .exit i => False | .ret => RetQ Tryz.prog Tryz.f31 R .ret a w | _ => False
  var := fun g b a w => 0
  after := fun r => none
  before := fun r => none
def f31_pl : Plans := fun | _ => (.done, [])
theorem f31_vc {R : Ending → World → Prop} {window : Int} {key : ByteArray} {w : World}
    (entry : R (.returned (.int .u64 0)) w) : Calls Tryz.prog 31 #[.pointer none, .int .i64 window, .string key] w R :=
  calls_of_vc (B := bodied) (pl := f31_pl) (K := f31_K R window key) follows_mixed bodied_ok Tryz.func31 (c := codeOf Tryz.f31) (by kernel_rfl) (by kernel_rfl) (fun _ _ _ _ => (by kernel_rfl))
    ((.none (by kernel_rfl)))
    (cast_of (by kernel_rfl) entry)

/- (*heavykeys/shard.Shard).Windows -/
def f24_K (R : Ending → World → Prop) : Ann where
  inv := fun g b a w => False
  out := fun g b e a w => match e with | .exit i => False | .ret => RetQ Tryz.prog Tryz.f24 R .ret a w | _ => False
  var := fun g b a w => 0
  after := fun r => none
  before := fun r => none
def f24_pl : Plans := fun | _ => (.done, [])
theorem f24_vc {R : Ending → World → Prop} {w : World}
    (entry : R (.returned (.slice none 0 0)) w) : Calls Tryz.prog 24 #[.pointer none] w R :=
  calls_of_vc (B := bodied) (pl := f24_pl) (K := f24_K R) follows_mixed bodied_ok Tryz.func24 (c := codeOf Tryz.f24) (by kernel_rfl) (by kernel_rfl) (fun _ _ _ _ => (by kernel_rfl))
    ((.none (by kernel_rfl)))
    (cast_of (by kernel_rfl) entry)

/- (*heavykeys/shard.Shard).tier -/
def f65_K (R : Ending → World → Prop) (window : Int) : Ann where
  inv := fun g b a w => False
  out := fun g b e a w => match e with | .exit i => False | .ret => RetQ Tryz.prog Tryz.f65 R .ret a w | _ => False
  var := fun g b a w => 0
  after := fun r => none
  before := fun r => none
def f65_pl : Plans := fun | _ => (.done, [])
theorem f65_vc {R : Ending → World → Prop} {window : Int} {w : World}
    (entry : R (.returned (.pointer none)) w) : Calls Tryz.prog 65 #[.pointer none, .int .i64 window] w R :=
  calls_of_vc (B := bodied) (pl := f65_pl) (K := f65_K R window) follows_mixed bodied_ok Tryz.func65 (c := codeOf Tryz.f65) (by kernel_rfl) (by kernel_rfl) (fun _ _ _ _ => (by kernel_rfl))
    ((.none (by kernel_rfl)))
    (cast_of (by kernel_rfl) entry)

/- (*heavykeys/shard.Shard).Close -/
def f25_K (R : Ending → World → Prop) (window : Int) : Ann where
  inv := fun g b a w => False
  out := fun g b e a w => match e with | .exit i => False | .ret => RetQ Tryz.prog Tryz.f25 R .ret a w | _ => False
  var := fun g b a w => 0
  after := fun r => none
  before := fun r => none
def f25_pl : Plans := fun | _ => (.done, [])
theorem f25_vc {R : Ending → World → Prop} {window : Int} {w : World}
    (entry : Calls Tryz.prog 65 #[.pointer none, .int .i64 window] w fun e1 w2 => ∃ p3 : Option Addr, e1 = .returned (.pointer p3) ∧ CondQ ((p3).isNone) (R (.returned (.bool false)) w2) (Calls Tryz.prog 50 #[.pointer p3] w2 fun e4 w5 => e4 = .returned (.tuple #[]) ∧ False)) : Calls Tryz.prog 25 #[.pointer none, .int .i64 window] w R :=
  calls_of_vc (B := bodied) (pl := f25_pl) (K := f25_K R window) follows_mixed bodied_ok Tryz.func25 (c := codeOf Tryz.f25) (by kernel_rfl) (by kernel_rfl) (fun _ _ _ _ => (by kernel_rfl))
    ((.none (by kernel_rfl)))
    (cast_of (by kernel_rfl) entry)

/- (*heavykeys/tier.Tier).Bounds -/
def f77_K (R : Ending → World → Prop) (key : ByteArray) : Ann where
  inv := fun g b a w => False
  out := fun g b e a w => match e with | .exit i => False | .ret => RetQ Tryz.prog Tryz.f77 R .ret a w | _ => False
  var := fun g b a w => 0
  after := fun r => none
  before := fun r => none
def f77_pl : Plans := fun | 7 => (.val 1 <| .val 2 <| .val 3 <| .val 5 <| .val 8 <| .ld 0 [[7], [9]] <| .ld 4 [[6], [6, 7], [9]] <| .eff 6 <| .eff 7 <| .eff 9 <| .val 10 <| .done, [6, 7, 9]) | _ => (.done, [])
theorem f77_vc {R : Ending → World → Prop} {key : ByteArray} {w : World}
    (entry : AllocQ w 75 #[.int .u64 0, .int .u64 0] fun b1 w2 => Calls Tryz.prog 55 #[.pointer none] w2 fun e3 w4 => ∃ b5 : Bool, e3 = .returned (.bool b5) ∧ CondQ (!b5) ((#[.int .u64 0, .int .u64 0] : Array Value).size = 2 ∧ StoreQ w4 ⟨b1, 0, none⟩ [.int .u64 0, .int .u64 0] fun w6 => ∃ cs7 : Array Value, LoadsA w6 ⟨b1, 0, none⟩ 2 cs7 ∧ R (.returned (.tuple #[.agg cs7, .bool false])) w6) (False)) : Calls Tryz.prog 77 #[.pointer none, .string key] w R :=
  calls_of_vc (B := bodied) (pl := f77_pl) (K := f77_K R key) follows_mixed bodied_ok Tryz.func77 (c := codeOf Tryz.f77) (by kernel_rfl) (by kernel_rfl) (fun _ _ _ _ => (by kernel_rfl))
    ((.none (by kernel_rfl)))
    (cast_of (by kernel_rfl) entry)

/- (*heavykeys/tier.Tier).Ledger -/
def f78_I0 (JL0 : List Nat → Int → Option Addr → Nat → Nat → Int → Int → World → Prop) (g : List Nat) (a : Act) (w : World) : Prop := sizeS 32 a (intS .u64 (a.tmps.getD 3 undef) fun own_3 => sliceS (a.tmps.getD 11 undef) fun x_11A x_11n x_11c => intS .i64 (a.tmps.getD 12 undef) fun x_12 => intS .i64 (a.tmps.getD 13 undef) fun x_13 => a.tmps.getD 0 undef = (.pointer none : Value) ∧ JL0 g own_3 x_11A x_11n x_11c x_12 x_13 w)
theorem f78_I0.el {JL0 : List Nat → Int → Option Addr → Nat → Nat → Int → Int → World → Prop} {g : List Nat} {a : Act} {w : World} {C : Act → World → Prop} (h : f78_I0 JL0 g a w) (H : ∀ (ds : Nat → Value) (own_3 : Int) (x_11A : Option Addr) (x_11n x_11c : Nat) (x_12 x_13 : Int), JL0 g own_3 x_11A x_11n x_11c x_12 x_13 w → C (frameD ds 32 [(0, .pointer none), (3, .int .u64 own_3), (11, .slice x_11A x_11n x_11c), (12, .int .i64 x_12), (13, .int .i64 x_13)]) w) : C a w :=
  have h := sizeS.out h; have hs := h.1; have h := h.2; Exists.elim (intS.out h) fun own_3 h => have q3 := h.1; have h := h.2; Exists.elim (sliceS.out h) fun x_11A h => Exists.elim h fun x_11n h => Exists.elim h fun x_11c h => have q11 := h.1; have h := h.2; Exists.elim (intS.out h) fun x_12 h => have q12 := h.1; have h := h.2; Exists.elim (intS.out h) fun x_13 h => have q13 := h.1; have h := h.2; have q0 := h.1; have h := h.2; el_of (l := [(0, .pointer none), (3, .int .u64 own_3), (11, .slice x_11A x_11n x_11c), (12, .int .i64 x_12), (13, .int .i64 x_13)]) hs (⟨q0, q3, q11, q12, q13, trivial⟩) (H _ own_3 x_11A x_11n x_11c x_12 x_13 h)
def f78_MX0_0 (JX0_0 : List Nat → Int → World → Prop) (g : List Nat) (a : Act) (w : World) : Prop := sizeS 32 a (intS .u64 (a.tmps.getD 3 undef) fun own_3 => a.tmps.getD 0 undef = (.pointer none : Value) ∧ JX0_0 g own_3 w)
theorem f78_MX0_0.el {JX0_0 : List Nat → Int → World → Prop} {g : List Nat} {a : Act} {w : World} {C : Act → World → Prop} (h : f78_MX0_0 JX0_0 g a w) (H : ∀ (ds : Nat → Value) (own_3 : Int), JX0_0 g own_3 w → C (frameD ds 32 [(0, .pointer none), (3, .int .u64 own_3)]) w) : C a w :=
  have h := sizeS.out h; have hs := h.1; have h := h.2; Exists.elim (intS.out h) fun own_3 h => have q3 := h.1; have h := h.2; have q0 := h.1; have h := h.2; el_of (l := [(0, .pointer none), (3, .int .u64 own_3)]) hs (⟨q0, q3, trivial⟩) (H _ own_3 h)
def f78_K (R : Ending → World → Prop) (JL0 : List Nat → Int → Option Addr → Nat → Nat → Int → Int → World → Prop) (VL0 : List Nat → Int → Option Addr → Nat → Nat → Int → Int → World → Nat) (JX0_0 : List Nat → Int → World → Prop) : Ann where
  inv := fun g b a w => if b = 0 then f78_I0 JL0 g a w else False
  out := fun g b e a w => match e with | .exit i => if b = 0 then (if i = 0 then f78_MX0_0 JX0_0 g a w else False) else False | .ret => RetQ Tryz.prog Tryz.f78 R .ret a w | _ => False
  var := fun g b a w => if b = 0 then VL0 g (slotI a 3) (slotA a 11) (slotN a 11) (slotC a 11) (slotI a 12) (slotI a 13) w else 0
  after := fun r => none
  before := fun r => none
def f78_pl : Plans := fun | _ => (.done, [])
theorem f78_vc {R : Ending → World → Prop} {w : World} (JL0 : List Nat → Int → Option Addr → Nat → Nat → Int → Int → World → Prop) (VL0 : List Nat → Int → Option Addr → Nat → Nat → Int → Int → World → Nat) (JX0_0 : List Nat → Int → World → Prop)
    (round0 : ∀ (own_3 : Int) (x_11A : Option Addr) (x_11n x_11c : Nat) (x_12 x_13 : Int) (w7 : World) (m8 : Nat), JL0 [] own_3 x_11A x_11n x_11c x_12 x_13 w7 → VL0 [] own_3 x_11A x_11n x_11c x_12 x_13 w7 = m8 → CondQ (decide (x_13 < x_12)) ((0 ≤ x_13 ∧ x_13 < ((x_11n : Nat) : Int)) ∧ optQ x_11A fun a9 => ∃ cs10 : Array Value, LoadsA w7 (Addr.add a9 (Int.toNat x_13 * 3)) 3 cs10 ∧ AllocQ w7 135 #[.string ⟨#[]⟩, .int .u64 0, .int .u64 0] fun b11 w12 => (cs10 : Array Value).size = 3 ∧ StoreQ w12 ⟨b11, 0, none⟩ cs10.toList fun w13 => ∃ n14 : Int, w13.cell? ⟨b11, 1, none⟩ = some (.int .u64 n14) ∧ ((.pointer none : Value) = .pointer none ∧ JL0 [] (IntKind.wrap .u64 (own_3 + n14)) x_11A x_11n x_11c x_12 (IntKind.wrap .i64 (x_13 + 1)) w13) ∧ VL0 [] (IntKind.wrap .u64 (own_3 + n14)) x_11A x_11n x_11c x_12 (IntKind.wrap .i64 (x_13 + 1)) w13 < m8) ((.pointer none : Value) = .pointer none ∧ JX0_0 [] own_3 w7))
    (exit0_0 : ∀ (own_3 : Int) (w15 : World), JX0_0 [] own_3 w15 → False)
    (entry : Calls Tryz.prog 55 #[.pointer none] w fun e1 w2 => ∃ b3 : Bool, e1 = .returned (.bool b3) ∧ CondQ (!b3) (R (.returned (.tuple #[.int .u64 0, .int .u64 0, .int .u64 0])) w2) (Calls Tryz.prog 68 #[.pointer none] w2 fun e4 w5 => ∃ (A6 : Option Addr) (m6 c6 : Nat), e4 = .returned (.slice A6 m6 c6) ∧ (.pointer none : Value) = .pointer none ∧ JL0 [] 0 A6 m6 c6 ((m6 : Nat) : Int) 0 w5)) : Calls Tryz.prog 78 #[.pointer none] w R :=
  calls_of_vc (B := bodied) (pl := f78_pl) (K := f78_K R JL0 VL0 JX0_0) follows_mixed bodied_ok Tryz.func78 (c := codeOf Tryz.f78) (by kernel_rfl) (by kernel_rfl) (fun _ _ _ _ => (by kernel_rfl))
    ((.seq (by kernel_rfl) (by kernel_rfl) (.none (by kernel_rfl)) (.seq (by kernel_rfl) (by kernel_rfl) (.none (by kernel_rfl)) (.seq (by kernel_rfl) (by kernel_rfl) (.seq (by kernel_rfl) (by kernel_rfl) (.none (by kernel_rfl)) (.block 0 (by kernel_rfl) (.loop (by kernel_rfl) (by
      intro e a w hr h
      cases e with
      | exit i => (replace h : if i = 0 then f78_MX0_0 JX0_0 [] a w else False := cast_of (by kernel_rfl) h); (refine ite_elim h (fun hi h => by subst hi; exact f78_MX0_0.el (C := fun a w => (_ : Exit → Env → World → Prop) (.exit 0) ⟨a, []⟩ w) h fun ds own_3 hJ => cast_of (by kernel_rfl) (exit0_0 own_3 w hJ)) (fun _ h => ?_); exact h.elim)
      | ret => exact absurd rfl hr
      | _ => exact (cast_of (q := False) (by kernel_rfl) h).elim)
      (fun _ _ h => cast_of (by kernel_rfl) h)
      (fun _ _ _ h => cast_of (by kernel_rfl) h)
      (fun m8 a w h => f78_I0.el (C := fun a w => (f78_K R JL0 VL0 JX0_0).var [] 0 a w = m8 → vcE Tryz.prog bodied f78_pl (f78_K R JL0 VL0 JX0_0) (m8 :: []) 0 _ _ ⟨a, []⟩ w) (cast_of (q := f78_I0 JL0 [] a w) (by kernel_rfl) h) fun ds own_3 x_11A x_11n x_11c x_12 x_13 hJ hm => cast_of (by kernel_rfl) (round0 own_3 x_11A x_11n x_11c x_12 x_13 w m8 hJ (cast_of (by kernel_rfl) hm)))
      (fun m8 => (.none (by kernel_rfl)))))) (.none (by kernel_rfl))))))
    (cast_of (by kernel_rfl) entry)

/- (*heavykeys/tier.Tier).Summary -/
def f23_K (R : Ending → World → Prop) : Ann where
  inv := fun g b a w => False
  out := fun g b e a w => match e with | .exit i => False | .ret => RetQ Tryz.prog Tryz.f23 R .ret a w | _ => False
  var := fun g b a w => 0
  after := fun r => none
  before := fun r => none
def f23_pl : Plans := fun | 3 => (.val 0 <| .val 1 <| .val 2 <| .val 5 <| .val 7 <| .val 8 <| .val 9 <| .val 12 <| .val 13 <| .val 14 <| .ld 3 [[4], [4, 6], [4, 6, 11], [4, 6, 11, 16], [18]] <| .ld 10 [[11], [11, 16], [18]] <| .ld 15 [[16], [18]] <| .eff 4 <| .eff 6 <| .eff 11 <| .eff 16 <| .val 17 <| .eff 18 <| .done, [4, 6, 11, 16, 18]) | _ => (.done, [])
theorem f23_vc {R : Ending → World → Prop} {w : World}
    (entry : AllocQ w 60 #[.int .u64 0, .slice none 0 0, .int .u64 0, .slice none 0 0] fun b1 w2 => Calls Tryz.prog 55 #[.pointer none] w2 fun e3 w4 => ∃ b5 : Bool, e3 = .returned (.bool b5) ∧ CondQ (!b5) ((#[.int .u64 0, .slice none 0 0, .int .u64 0, .slice none 0 0] : Array Value).size = 4 ∧ StoreQ w4 ⟨b1, 0, none⟩ [.int .u64 0, .slice none 0 0, .int .u64 0, .slice none 0 0] fun w6 => ∃ cs7 : Array Value, LoadsA w6 ⟨b1, 0, none⟩ 4 cs7 ∧ R (.returned (.agg cs7)) w6) (False)) : Calls Tryz.prog 23 #[.pointer none] w R :=
  calls_of_vc (B := bodied) (pl := f23_pl) (K := f23_K R) follows_mixed bodied_ok Tryz.func23 (c := codeOf Tryz.f23) (by kernel_rfl) (by kernel_rfl) (fun _ _ _ _ => (by kernel_rfl))
    ((.none (by kernel_rfl)))
    (cast_of (by kernel_rfl) entry)

/- (*heavykeys/tier.Tier).open -/
def f55_K (R : Ending → World → Prop) : Ann where
  inv := fun g b a w => False
  out := fun g b e a w => match e with | .exit i => False | .ret => RetQ Tryz.prog Tryz.f55 R .ret a w | _ => False
  var := fun g b a w => 0
  after := fun r => none
  before := fun r => none
def f55_pl : Plans := fun | _ => (.done, [])
theorem f55_vc {R : Ending → World → Prop} {w : World}
    (entry : R (.returned (.bool false)) w) : Calls Tryz.prog 55 #[.pointer none] w R :=
  calls_of_vc (B := bodied) (pl := f55_pl) (K := f55_K R) follows_mixed bodied_ok Tryz.func55 (c := codeOf Tryz.f55) (by kernel_rfl) (by kernel_rfl) (fun _ _ _ _ => (by kernel_rfl))
    ((.none (by kernel_rfl)))
    (cast_of (by kernel_rfl) entry)

/- (*heavykeys/shard.Shard).Bounds -/
def f29_K (R : Ending → World → Prop) (window : Int) (key : ByteArray) : Ann where
  inv := fun g b a w => False
  out := fun g b e a w => match e with | .exit i => False | .ret => RetQ Tryz.prog Tryz.f29 R .ret a w | _ => False
  var := fun g b a w => 0
  after := fun r => none
  before := fun r => none
def f29_pl : Plans := fun | _ => (.done, [])
theorem f29_vc {R : Ending → World → Prop} {window : Int} {key : ByteArray} {w : World}
    (entry : AllocQ w 75 #[.int .u64 0, .int .u64 0] fun b1 w2 => Calls Tryz.prog 65 #[.pointer none, .int .i64 window] w2 fun e3 w4 => ∃ p5 : Option Addr, e3 = .returned (.pointer p5) ∧ Calls Tryz.prog 77 #[.pointer p5, .string key] w4 fun e6 w7 => ∃ cs8 : Array Value, ∃ b9 : Bool, e6 = .returned (.tuple #[.agg cs8, .bool b9]) ∧ (cs8 : Array Value).size = 2 ∧ StoreQ w7 ⟨b1, 0, none⟩ cs8.toList fun w10 => ∃ cs11 : Array Value, LoadsA w10 ⟨b1, 0, none⟩ 2 cs11 ∧ R (.returned (.tuple #[.agg cs11, .bool b9])) w10) : Calls Tryz.prog 29 #[.pointer none, .int .i64 window, .string key] w R :=
  calls_of_vc (B := bodied) (pl := f29_pl) (K := f29_K R window key) follows_mixed bodied_ok Tryz.func29 (c := codeOf Tryz.f29) (by kernel_rfl) (by kernel_rfl) (fun _ _ _ _ => (by kernel_rfl))
    ((.none (by kernel_rfl)))
    (cast_of (by kernel_rfl) entry)

/- (*heavykeys/shard.Shard).Ledger -/
def f30_K (R : Ending → World → Prop) (window : Int) : Ann where
  inv := fun g b a w => False
  out := fun g b e a w => match e with | .exit i => False | .ret => RetQ Tryz.prog Tryz.f30 R .ret a w | _ => False
  var := fun g b a w => 0
  after := fun r => none
  before := fun r => none
def f30_pl : Plans := fun | _ => (.done, [])
theorem f30_vc {R : Ending → World → Prop} {window : Int} {w : World}
    (entry : Calls Tryz.prog 65 #[.pointer none, .int .i64 window] w fun e1 w2 => ∃ p3 : Option Addr, e1 = .returned (.pointer p3) ∧ Calls Tryz.prog 78 #[.pointer p3] w2 fun e4 w5 => ∃ n6 : Int, ∃ n7 : Int, ∃ n8 : Int, e4 = .returned (.tuple #[.int .u64 n6, .int .u64 n7, .int .u64 n8]) ∧ R (.returned (.tuple #[.int .u64 n6, .int .u64 n7, .int .u64 n8])) w5) : Calls Tryz.prog 30 #[.pointer none, .int .i64 window] w R :=
  calls_of_vc (B := bodied) (pl := f30_pl) (K := f30_K R window) follows_mixed bodied_ok Tryz.func30 (c := codeOf Tryz.f30) (by kernel_rfl) (by kernel_rfl) (fun _ _ _ _ => (by kernel_rfl))
    ((.none (by kernel_rfl)))
    (cast_of (by kernel_rfl) entry)

/- (*heavykeys/shard.Shard).Summary -/
def f20_K (R : Ending → World → Prop) (window : Int) : Ann where
  inv := fun g b a w => False
  out := fun g b e a w => match e with | .exit i => False | .ret => RetQ Tryz.prog Tryz.f20 R .ret a w | _ => False
  var := fun g b a w => 0
  after := fun r => none
  before := fun r => none
def f20_pl : Plans := fun | _ => (.done, [])
theorem f20_vc {R : Ending → World → Prop} {window : Int} {w : World}
    (entry : AllocQ w 60 #[.int .u64 0, .slice none 0 0, .int .u64 0, .slice none 0 0] fun b1 w2 => Calls Tryz.prog 65 #[.pointer none, .int .i64 window] w2 fun e3 w4 => ∃ p5 : Option Addr, e3 = .returned (.pointer p5) ∧ Calls Tryz.prog 23 #[.pointer p5] w4 fun e6 w7 => ∃ cs8 : Array Value, e6 = .returned (.agg cs8) ∧ (cs8 : Array Value).size = 4 ∧ StoreQ w7 ⟨b1, 0, none⟩ cs8.toList fun w9 => ∃ cs10 : Array Value, LoadsA w9 ⟨b1, 0, none⟩ 4 cs10 ∧ R (.returned (.agg cs10)) w9) : Calls Tryz.prog 20 #[.pointer none, .int .i64 window] w R :=
  calls_of_vc (B := bodied) (pl := f20_pl) (K := f20_K R window) follows_mixed bodied_ok Tryz.func20 (c := codeOf Tryz.f20) (by kernel_rfl) (by kernel_rfl) (fun _ _ _ _ => (by kernel_rfl))
    ((.none (by kernel_rfl)))
    (cast_of (by kernel_rfl) entry)

end Go.Proofs.YtdaookipaknoeaaGreat.Nil
