/-
  Conditions of functions, printed by gen.py (see NOTES).
-/
import Derived.Test.YtdaookipaknoeaaGreatBase
namespace Go.Proofs.YtdaookipaknoeaaGreat
open Go
set_option linter.unusedVariables false

/- heavykeys/heavykeysmade.Within -/
def f98_K (R : Ending → World → Prop) (x n : Int) : Ann where
  inv := fun g b a w => False
  out := fun g b e a w => match e with | .exit i => False | .ret => RetQ Tryz.prog Tryz.f98 R .ret a w | _ => False
  var := fun g b a w => 0
  after := fun r => none
  before := fun r => none
def f98_pl : Plans := fun | _ => (.done, [])
theorem f98_vc {R : Ending → World → Prop} {x n : Int} {w : World}
    (entry : n ≠ 0 ∧ n ≠ 0 ∧ R (.returned (.int .i64 (Int.tmod (IntKind.wrap .i64 ((Int.tmod x n) + n)) n))) w) : Calls Tryz.prog 98 #[.int .i64 x, .int .i64 n] w R :=
  calls_of_vc (B := bodied) (pl := f98_pl) (K := f98_K R x n) follows_mixed bodied_ok Tryz.func98 (c := codeOf Tryz.f98) (by kernel_rfl) (by kernel_rfl) (fun _ _ _ _ => (by kernel_rfl))
    ((.none (by kernel_rfl)))
    (cast_of (by kernel_rfl) entry)

/- (*heavykeys/heavykeysmade.Deck).Next -/
def f52_K (R : Ending → World → Prop) (db : Nat) (n : Int) : Ann where
  inv := fun g b a w => False
  out := fun g b e a w => match e with | .exit i => False | .ret => RetQ Tryz.prog Tryz.f52 R .ret a w | _ => False
  var := fun g b a w => 0
  after := fun r => none
  before := fun r => none
def f52_pl : Plans := fun | 1 => (.val 0 <| .val 1 <| .val 2 <| .val 4 <| .val 5 <| .val 6 <| .ld 3 [] <| .ld 7 [] <| .val 8 <| .val 9 <| .done, []) | 4 => (.val 0 <| .val 1 <| .val 2 <| .val 4 <| .val 5 <| .val 6 <| .val 11 <| .ld 3 [[9, 10, 12]] <| .ld 7 [[8, 9, 10, 12]] <| .val 8 <| .val 9 <| .ld 10 [[12]] <| .eff 12 <| .val 13 <| .done, [12]) | _ => (.done, [])
theorem f52_vc {R : Ending → World → Prop} {db : Nat} {n : Int} {w : World}
    (entry : ∃ n1 : Int, w.drew.cell? ⟨db, 1, none⟩ = some (.int .i64 n1) ∧ ∃ (A2 : Option Addr) (m2 c2 : Nat), w.drew.cell? ⟨db, 0, none⟩ = some (.slice A2 m2 c2) ∧ CondQ (decide (n1 ≥ ((m2 : Nat) : Int))) (R (.returned (.int .i64 0)) w.drew) (∃ n3 : Int, w.drew.cell? ⟨db, 1, none⟩ = some (.int .i64 n3) ∧ StoreQ w.drew ⟨db, 1, none⟩ [.int .i64 (IntKind.wrap .i64 (n3 + 1))] fun w4 => ∃ (A5 : Option Addr) (m5 c5 : Nat), w4.drew.cell? ⟨db, 0, none⟩ = some (.slice A5 m5 c5) ∧ ∃ n6 : Int, w4.drew.cell? ⟨db, 1, none⟩ = some (.int .i64 n6) ∧ (0 ≤ IntKind.wrap .i64 (n6 - 1) ∧ IntKind.wrap .i64 (n6 - 1) < ((m5 : Nat) : Int)) ∧ optQ A5 fun a7 => ∃ n8 : Int, w4.drew.cell? (Addr.add a7 (Int.toNat (IntKind.wrap .i64 (n6 - 1)) * 1)) = some (.int .i64 n8) ∧ Calls Tryz.prog 98 #[.int .i64 n8, .int .i64 n] w4.drew fun e9 w10 => ∃ n11 : Int, e9 = .returned (.int .i64 n11) ∧ R (.returned (.int .i64 n11)) w10)) : Calls Tryz.prog 52 #[.pointer (some ⟨db, 0, none⟩), .int .i64 n] w R :=
  calls_of_vc (B := bodied) (pl := f52_pl) (K := f52_K R db n) follows_mixed bodied_ok Tryz.func52 (c := codeOf Tryz.f52) (by kernel_rfl) (by kernel_rfl) (fun _ _ _ _ => (by kernel_rfl))
    ((.none (by kernel_rfl)))
    (cast_of (by kernel_rfl) entry)

/- (*heavykeys/heavykeysmade.Deck).Word -/
def f74_K (R : Ending → World → Prop) (db : Nat) : Ann where
  inv := fun g b a w => False
  out := fun g b e a w => match e with | .exit i => False | .ret => RetQ Tryz.prog Tryz.f74 R .ret a w | _ => False
  var := fun g b a w => 0
  after := fun r => none
  before := fun r => none
def f74_pl : Plans := fun | _ => (.done, [])
theorem f74_vc {R : Ending → World → Prop} {db : Nat} {w : World}
    (entry : Calls Tryz.prog 52 #[.pointer (some ⟨db, 0, none⟩), .int .i64 4294967296] w fun e1 w2 => ∃ n3 : Int, e1 = .returned (.int .i64 n3) ∧ (¬ (32 : Int) < 0) ∧ Calls Tryz.prog 52 #[.pointer (some ⟨db, 0, none⟩), .int .i64 4294967296] w2 fun e4 w5 => ∃ n6 : Int, e4 = .returned (.int .i64 n6) ∧ R (.returned (.int .u64 (IntKind.wrap .u64 ((BitVec.toNat (BitVec.ofInt (IntKind.bits .u64) (IntKind.wrap .u64 (IntKind.wrap .u64 n3 * 2 ^ min (Int.toNat 32) (IntKind.bits .u64))) ^^^ BitVec.ofInt (IntKind.bits .u64) (IntKind.wrap .u64 n6)) : Nat) : Int)))) w5) : Calls Tryz.prog 74 #[.pointer (some ⟨db, 0, none⟩)] w R :=
  calls_of_vc (B := bodied) (pl := f74_pl) (K := f74_K R db) follows_mixed bodied_ok Tryz.func74 (c := codeOf Tryz.f74) (by kernel_rfl) (by kernel_rfl) (fun _ _ _ _ => (by kernel_rfl))
    ((.none (by kernel_rfl)))
    (cast_of (by kernel_rfl) entry)

/- (*heavykeys/heavykeysmade.Deck).Table -/
def f73_I0 (db : Nat) (JL0 : List Nat → Option Addr → Nat → Nat → Bool → Int → Int → World → Prop) (g : List Nat) (a : Act) (w : World) : Prop := sizeS 24 a (sliceS (a.tmps.getD 3 undef) fun l_3A l_3n l_3c => boolS (a.tmps.getD 4 undef) fun same_4 => intS .i64 (a.tmps.getD 11 undef) fun x_11 => intS .i64 (a.tmps.getD 12 undef) fun x_12 => a.tmps.getD 0 undef = (.pointer (some ⟨db, 0, none⟩) : Value) ∧ JL0 g l_3A l_3n l_3c same_4 x_11 x_12 w)
theorem f73_I0.el {db : Nat} {JL0 : List Nat → Option Addr → Nat → Nat → Bool → Int → Int → World → Prop} {g : List Nat} {a : Act} {w : World} {C : Act → World → Prop} (h : f73_I0 db JL0 g a w) (H : ∀ (ds : Nat → Value) (l_3A : Option Addr) (l_3n l_3c : Nat) (same_4 : Bool) (x_11 x_12 : Int), JL0 g l_3A l_3n l_3c same_4 x_11 x_12 w → C (frameD ds 24 [(0, .pointer (some ⟨db, 0, none⟩)), (3, .slice l_3A l_3n l_3c), (4, .bool same_4), (11, .int .i64 x_11), (12, .int .i64 x_12)]) w) : C a w :=
  have h := sizeS.out h; have hs := h.1; have h := h.2; Exists.elim (sliceS.out h) fun l_3A h => Exists.elim h fun l_3n h => Exists.elim h fun l_3c h => have q3 := h.1; have h := h.2; Exists.elim (boolS.out h) fun same_4 h => have q4 := h.1; have h := h.2; Exists.elim (intS.out h) fun x_11 h => have q11 := h.1; have h := h.2; Exists.elim (intS.out h) fun x_12 h => have q12 := h.1; have h := h.2; have q0 := h.1; have h := h.2; el_of (l := [(0, .pointer (some ⟨db, 0, none⟩)), (3, .slice l_3A l_3n l_3c), (4, .bool same_4), (11, .int .i64 x_11), (12, .int .i64 x_12)]) hs (⟨q0, q3, q4, q11, q12, trivial⟩) (H _ l_3A l_3n l_3c same_4 x_11 x_12 h)
def f73_MX0_0 (db : Nat) (JX0_0 : List Nat → Option Addr → Nat → Nat → World → Prop) (g : List Nat) (a : Act) (w : World) : Prop := sizeS 24 a (sliceS (a.tmps.getD 3 undef) fun l_3A l_3n l_3c => JX0_0 g l_3A l_3n l_3c w)
theorem f73_MX0_0.el {db : Nat} {JX0_0 : List Nat → Option Addr → Nat → Nat → World → Prop} {g : List Nat} {a : Act} {w : World} {C : Act → World → Prop} (h : f73_MX0_0 db JX0_0 g a w) (H : ∀ (ds : Nat → Value) (l_3A : Option Addr) (l_3n l_3c : Nat), JX0_0 g l_3A l_3n l_3c w → C (frameD ds 24 [(3, .slice l_3A l_3n l_3c)]) w) : C a w :=
  have h := sizeS.out h; have hs := h.1; have h := h.2; Exists.elim (sliceS.out h) fun l_3A h => Exists.elim h fun l_3n h => Exists.elim h fun l_3c h => have q3 := h.1; have h := h.2; el_of (l := [(3, .slice l_3A l_3n l_3c)]) hs (⟨q3, trivial⟩) (H _ l_3A l_3n l_3c h)
def f73_K (R : Ending → World → Prop) (db : Nat) (JL0 : List Nat → Option Addr → Nat → Nat → Bool → Int → Int → World → Prop) (VL0 : List Nat → Option Addr → Nat → Nat → Bool → Int → Int → World → Nat) (JX0_0 : List Nat → Option Addr → Nat → Nat → World → Prop) : Ann where
  inv := fun g b a w => if b = 0 then f73_I0 db JL0 g a w else False
  out := fun g b e a w => match e with | .exit i => if b = 0 then (if i = 0 then f73_MX0_0 db JX0_0 g a w else False) else False | .ret => RetQ Tryz.prog Tryz.f73 R .ret a w | _ => False
  var := fun g b a w => if b = 0 then VL0 g (slotA a 3) (slotN a 3) (slotC a 3) (slotB a 4) (slotI a 11) (slotI a 12) w else 0
  after := fun r => none
  before := fun r => none
def f73_pl : Plans := fun | _ => (.done, [])
theorem f73_vc {R : Ending → World → Prop} {db : Nat} {w : World} (JL0 : List Nat → Option Addr → Nat → Nat → Bool → Int → Int → World → Prop) (VL0 : List Nat → Option Addr → Nat → Nat → Bool → Int → Int → World → Nat) (JX0_0 : List Nat → Option Addr → Nat → Nat → World → Prop)
    (round0 : ∀ (l_3A : Option Addr) (l_3n l_3c : Nat) (same_4 : Bool) (x_11 x_12 : Int) (w6 : World) (m7 : Nat), JL0 [] l_3A l_3n l_3c same_4 x_11 x_12 w6 → VL0 [] l_3A l_3n l_3c same_4 x_11 x_12 w6 = m7 → CondQ (decide (x_12 < x_11)) (CondQ (!same_4) (Calls Tryz.prog 74 #[.pointer (some ⟨db, 0, none⟩)] w6 fun e8 w9 => ∃ n10 : Int, e8 = .returned (.int .u64 n10) ∧ (0 ≤ x_12 ∧ x_12 < ((l_3n : Nat) : Int)) ∧ optQ l_3A fun a11 => StoreQ w9 (Addr.add a11 (Int.toNat x_12 * 1)) [.int .u64 n10] fun w12 => ((.pointer (some ⟨db, 0, none⟩) : Value) = .pointer (some ⟨db, 0, none⟩) ∧ JL0 [] l_3A l_3n l_3c same_4 x_11 (IntKind.wrap .i64 (x_12 + 1)) w12) ∧ VL0 [] l_3A l_3n l_3c same_4 x_11 (IntKind.wrap .i64 (x_12 + 1)) w12 < m7) (((.pointer (some ⟨db, 0, none⟩) : Value) = .pointer (some ⟨db, 0, none⟩) ∧ JL0 [] l_3A l_3n l_3c same_4 x_11 (IntKind.wrap .i64 (x_12 + 1)) w6) ∧ VL0 [] l_3A l_3n l_3c same_4 x_11 (IntKind.wrap .i64 (x_12 + 1)) w6 < m7)) (JX0_0 [] l_3A l_3n l_3c w6))
    (exit0_0 : ∀ (l_3A : Option Addr) (l_3n l_3c : Nat) (w13 : World), JX0_0 [] l_3A l_3n l_3c w13 → R (.returned (.slice l_3A l_3n l_3c)) w13)
    (entry : ∃ (A2 : Option Addr) (m2 c2 : Nat), ∃ w1, (Instr.makeSlice 28 (.int .i64 16) (.int .i64 16)).run Tryz.prog w = .ok (.slice A2 m2 c2) w1 ∧ Calls Tryz.prog 52 #[.pointer (some ⟨db, 0, none⟩), .int .i64 4] w1 fun e3 w4 => ∃ n5 : Int, e3 = .returned (.int .i64 n5) ∧ (.pointer (some ⟨db, 0, none⟩) : Value) = .pointer (some ⟨db, 0, none⟩) ∧ JL0 [] A2 m2 c2 (n5 == 1) ((m2 : Nat) : Int) 0 w4) : Calls Tryz.prog 73 #[.pointer (some ⟨db, 0, none⟩)] w R :=
  calls_of_vc (B := bodied) (pl := f73_pl) (K := f73_K R db JL0 VL0 JX0_0) follows_mixed bodied_ok Tryz.func73 (c := codeOf Tryz.f73) (by kernel_rfl) (by kernel_rfl) (fun _ _ _ _ => (by kernel_rfl))
    ((.seq (by kernel_rfl) (by kernel_rfl) (.none (by kernel_rfl)) (.seq (by kernel_rfl) (by kernel_rfl) (.none (by kernel_rfl)) (.seq (by kernel_rfl) (by kernel_rfl) (.none (by kernel_rfl)) (.seq (by kernel_rfl) (by kernel_rfl) (.seq (by kernel_rfl) (by kernel_rfl) (.none (by kernel_rfl)) (.block 0 (by kernel_rfl) (.loop (by kernel_rfl) (by
      intro e a w hr h
      cases e with
      | exit i => (replace h : if i = 0 then f73_MX0_0 db JX0_0 [] a w else False := cast_of (by kernel_rfl) h); (refine ite_elim h (fun hi h => by subst hi; exact f73_MX0_0.el (db := db) (C := fun a w => (_ : Exit → Env → World → Prop) (.exit 0) ⟨a, []⟩ w) h fun ds l_3A l_3n l_3c hJ => cast_of (by kernel_rfl) (exit0_0 l_3A l_3n l_3c w hJ)) (fun _ h => ?_); exact h.elim)
      | ret => exact absurd rfl hr
      | _ => exact (cast_of (q := False) (by kernel_rfl) h).elim)
      (fun _ _ h => cast_of (by kernel_rfl) h)
      (fun _ _ _ h => cast_of (by kernel_rfl) h)
      (fun m7 a w h => f73_I0.el (db := db) (C := fun a w => (f73_K R db JL0 VL0 JX0_0).var [] 0 a w = m7 → vcE Tryz.prog bodied f73_pl (f73_K R db JL0 VL0 JX0_0) (m7 :: []) 0 _ _ ⟨a, []⟩ w) (cast_of (q := f73_I0 db JL0 [] a w) (by kernel_rfl) h) fun ds l_3A l_3n l_3c same_4 x_11 x_12 hJ hm => cast_of (by kernel_rfl) (round0 l_3A l_3n l_3c same_4 x_11 x_12 w m7 hJ (cast_of (by kernel_rfl) hm)))
      (fun m7 => (.none (by kernel_rfl)))))) (.none (by kernel_rfl)))))))
    (cast_of (by kernel_rfl) entry)

/- heavykeys/heavykeysmade.New -/
def f7_K (R : Ending → World → Prop) (lA : Option Addr) (ln lc : Nat) : Ann where
  inv := fun g b a w => False
  out := fun g b e a w => match e with | .exit i => False | .ret => RetQ Tryz.prog Tryz.f7 R .ret a w | _ => False
  var := fun g b a w => 0
  after := fun r => none
  before := fun r => none
def f7_pl : Plans := fun | _ => (.done, [])
theorem f7_vc {R : Ending → World → Prop} {lA : Option Addr} {ln lc : Nat} {w : World}
    (entry : AllocQ w 93 #[.slice lA ln lc, .int .i64 0] fun b1 w2 => R (.returned (.pointer (some ⟨b1, 0, none⟩))) w2) : Calls Tryz.prog 7 #[.slice lA ln lc] w R :=
  calls_of_vc (B := bodied) (pl := f7_pl) (K := f7_K R lA ln lc) follows_mixed bodied_ok Tryz.func7 (c := codeOf Tryz.f7) (by kernel_rfl) (by kernel_rfl) (fun _ _ _ _ => (by kernel_rfl))
    ((.none (by kernel_rfl)))
    (cast_of (by kernel_rfl) entry)

end Go.Proofs.YtdaookipaknoeaaGreat
