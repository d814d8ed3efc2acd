/-
  Conditions of functions, printed by gen.py (see NOTES).
-/
import Derived.Test.YtdaookipaknoeaaGreatBase
namespace Go.Proofs.YtdaookipaknoeaaGreat.Nil
open Go
set_option linter.unusedVariables false

/- heavykeys/shard.New -/
def f28_K (R : Ending → World → Prop) (ccs : Array Value) : Ann where
  inv := fun g b a w => False
  out := fun g b e a w => match e with | .exit i => False | .ret => RetQ Tryz.prog Tryz.f28 R .ret a w | _ => False
  var := fun g b a w => 0
  after := fun r => none
  before := fun r => none
def f28_pl : Plans := fun | _ => (.done, [])
theorem f28_vc {R : Ending → World → Prop} {ccs : Array Value} {w : World}
    (entry : AllocQ w 30 ccs fun b1 w2 => ∃ n3 : Int, w2.cell? ⟨b1, 5, none⟩ = some (.int .i64 n3) ∧ Calls Tryz.prog 76 #[.pointer none, .pointer none, .int .i64 n3] w2 fun e4 w5 => ∃ p6 : Option Addr, ∃ n7 : Int, e4 = .returned (.tuple #[.pointer p6, .int .i64 n7]) ∧ CondQ (n7 != 0) (R (.returned (.tuple #[.pointer none, .int .i64 n7])) w5) (∃ cs8 : Array Value, LoadsA w5 ⟨b1, 0, none⟩ 17 cs8 ∧ ∃ r10 : Option Nat, ∃ w9, (Instr.makeMap 128 none).run Tryz.prog w5 = .ok (.map r10) w9 ∧ (cs8 : Array Value).size = 17 ∧ AllocQ w9 130 (setL (setL (setL #[.pointer none, .pointer none, .int .i64 0, .int .i64 0, .int .i64 0, .int .i64 0, .int .i64 0, .int .i64 0, .int .i64 0, .int .i64 0, .int .i64 0, .int .u64 0, .int .i64 0, .int .i64 0, .int .i64 0, .int .i64 0, .slice none 0 0, .slice none 0 0, .int .u64 0, .pointer none, .map none] 2 (Array.toList cs8)) 19 ([.pointer p6])) 20 ([.map r10])) fun b11 w12 => R (.returned (.tuple #[.pointer (some ⟨b11, 0, none⟩), .int .i64 0])) w12)) : Calls Tryz.prog 28 #[.pointer none, .pointer none, .agg ccs] w R :=
  calls_of_vc (B := bodied) (pl := f28_pl) (K := f28_K R ccs) follows_mixed bodied_ok Tryz.func28 (c := codeOf Tryz.f28) (by kernel_rfl) (by kernel_rfl) (fun _ _ _ _ => (by kernel_rfl))
    ((.none (by kernel_rfl)))
    (cast_of (by kernel_rfl) entry)

/- heavykeys/queue.New -/
def f76_K (R : Ending → World → Prop) (n : Int) : Ann where
  inv := fun g b a w => False
  out := fun g b e a w => match e with | .exit i => False | .ret => RetQ Tryz.prog Tryz.f76 R .ret a w | _ => False
  var := fun g b a w => 0
  after := fun r => none
  before := fun r => none
def f76_pl : Plans := fun | _ => (.done, [])
theorem f76_vc {R : Ending → World → Prop} {n : Int} {w : World}
    (entry : R (.returned (.tuple #[.pointer none, .int .i64 8])) w) : Calls Tryz.prog 76 #[.pointer none, .pointer none, .int .i64 n] w R :=
  calls_of_vc (B := bodied) (pl := f76_pl) (K := f76_K R n) follows_mixed bodied_ok Tryz.func76 (c := codeOf Tryz.f76) (by kernel_rfl) (by kernel_rfl) (fun _ _ _ _ => (by kernel_rfl))
    ((.none (by kernel_rfl)))
    (cast_of (by kernel_rfl) entry)

end Go.Proofs.YtdaookipaknoeaaGreat.Nil
