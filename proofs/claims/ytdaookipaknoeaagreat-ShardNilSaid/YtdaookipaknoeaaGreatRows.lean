/-
  No cell of these rows narrows 'for every input' (looked for: loops, veiled, ifaces, maps, wideKeys, modest, calm, conditions, laid).
  DERIVED. THE GIVEN ROWS OF THIS SEAT. 4 by the template 'for every input the law returns true; each argument reads behind the call as it read before'; 0 by the template 'total and deterministic' (their statements: YtdaookipaknoeaaGreatTotals.lean).
  GIVEN WITH THE SEED: the statements are not yours to turn. If you find one false, say at which input.
  Laid BY PROGRAM, IN A SANDBOX (cutbox-rows.mjs): the forced cells as the released guide's own fill.sh prints them over the translation 43ffaa1168919a22… (all of the seat's roots in one cut). By AI agents, Wed Nov 11 2026. No macro, syntax, notation, axiom, sorry.
-/
import Derived.Test.YtdaookipaknoeaaGreatChecked
import GoSem.Claim
import GoSem.ClaimJoined
import GoSem.ClaimMapViews
import Derived.JoinedTies
import Derived.KernelRfl
namespace Go.Proofs.YtdaookipaknoeaaGreat
/- THE CELL 'sum', in the pinned program and in every row, IS THE sha256 OF THE DUMP (.gsa) THAT YtdaookipaknoeaaGreatProg.lean LOADS. Nothing in Lean hashes anything: it is a label: what it is worth is what the hold of that sum in a sandbox is worth. -/
noncomputable def Tryz.pinned : Pinned := { name := "ytdaookipaknoeaagreat", sum := "43ffaa1168919a22070f480fd63c0541199818f3a2bd629c24e654ff78b7100f", checked := Tryz.checked }
namespace Rows
def none {H : Type} : Left H := { results := [], args := [] }

/-- 'heavykeyslaw29.ShardTier': WHATEVER THE INPUT: true; the input reads as it did. -/
def shardTierSpec : ChangeSpec := { name := "shardTier", fn := fun _ => fun
  | [d1, d2] => { results := [.lit (.bool true)], args := [d1, d2] }
  | _ => none }
def shardTierRow : OpenClaim := { program := "ytdaookipaknoeaagreat", sum := "43ffaa1168919a22070f480fd63c0541199818f3a2bd629c24e654ff78b7100f", func := "heavykeys/heavykeyslaw29.ShardTier", spec := "shardTier", inPlace := ["math/bits.Add64", "internal/bytealg.abigen_runtime_cmpstring", "slices.overlaps[heavykeys/api.Entry]"], unfollowed := true, recurses := true, apart := false }
def ShardTierSaid : Prop := shardTierRow.holds Tryz.pinned (OpenSpec.ofChange shardTierSpec)

/-- ITS FALSE NEIGHBOUR: 'it returns false'. Refute it at one input. -/
def shardTierWrong : ChangeSpec := { name := "shardTier", fn := fun _ => fun
  | [d1, d2] => { results := [.lit (.bool false)], args := [d1, d2] }
  | _ => none }
def ShardTierWrongFalsely : Prop := shardTierRow.holds Tryz.pinned (OpenSpec.ofChange shardTierWrong)

/-- 'heavykeyslaw29.ShardEmpty': WHATEVER THE INPUT: true; the input reads as it did. -/
def shardEmptySpec : ChangeSpec := { name := "shardEmpty", fn := fun _ => fun
  | [d1, d2] => { results := [.lit (.bool true)], args := [d1, d2] }
  | _ => none }
def shardEmptyRow : OpenClaim := { program := "ytdaookipaknoeaagreat", sum := "43ffaa1168919a22070f480fd63c0541199818f3a2bd629c24e654ff78b7100f", func := "heavykeys/heavykeyslaw29.ShardEmpty", spec := "shardEmpty", inPlace := ["math/bits.Add64", "internal/bytealg.abigen_runtime_cmpstring", "slices.overlaps[heavykeys/api.Entry]"], unfollowed := true, recurses := true, apart := false }
def ShardEmptySaid : Prop := shardEmptyRow.holds Tryz.pinned (OpenSpec.ofChange shardEmptySpec)

/-- ITS FALSE NEIGHBOUR: 'it returns false'. Refute it at one input. -/
def shardEmptyWrong : ChangeSpec := { name := "shardEmpty", fn := fun _ => fun
  | [d1, d2] => { results := [.lit (.bool false)], args := [d1, d2] }
  | _ => none }
def ShardEmptyWrongFalsely : Prop := shardEmptyRow.holds Tryz.pinned (OpenSpec.ofChange shardEmptyWrong)

/-- 'heavykeyslaw29.ShardNil': WHATEVER THE INPUT: true; the input reads as it did. -/
def shardNilSpec : ChangeSpec := { name := "shardNil", fn := fun _ => fun
  | [d1, d2] => { results := [.lit (.bool true)], args := [d1, d2] }
  | _ => none }
def shardNilRow : OpenClaim := { program := "ytdaookipaknoeaagreat", sum := "43ffaa1168919a22070f480fd63c0541199818f3a2bd629c24e654ff78b7100f", func := "heavykeys/heavykeyslaw29.ShardNil", spec := "shardNil", inPlace := ["math/bits.Add64", "internal/bytealg.abigen_runtime_cmpstring", "slices.overlaps[heavykeys/api.Entry]"], unfollowed := true, recurses := true, apart := false }
def ShardNilSaid : Prop := shardNilRow.holds Tryz.pinned (OpenSpec.ofChange shardNilSpec)

/-- ITS FALSE NEIGHBOUR: 'it returns false'. Refute it at one input. -/
def shardNilWrong : ChangeSpec := { name := "shardNil", fn := fun _ => fun
  | [d1, d2] => { results := [.lit (.bool false)], args := [d1, d2] }
  | _ => none }
def ShardNilWrongFalsely : Prop := shardNilRow.holds Tryz.pinned (OpenSpec.ofChange shardNilWrong)

/-- 'heavykeyslaw29.ShardSteps': WHATEVER THE INPUT: true; the input reads as it did. -/
def shardStepsSpec : ChangeSpec := { name := "shardSteps", fn := fun _ => fun
  | [d1, d2] => { results := [.lit (.bool true)], args := [d1, d2] }
  | _ => none }
def shardStepsRow : OpenClaim := { program := "ytdaookipaknoeaagreat", sum := "43ffaa1168919a22070f480fd63c0541199818f3a2bd629c24e654ff78b7100f", func := "heavykeys/heavykeyslaw29.ShardSteps", spec := "shardSteps", inPlace := ["math/bits.Add64", "internal/bytealg.abigen_runtime_cmpstring", "slices.overlaps[heavykeys/api.Entry]"], unfollowed := true, recurses := true, apart := false }
def ShardStepsSaid : Prop := shardStepsRow.holds Tryz.pinned (OpenSpec.ofChange shardStepsSpec)

/-- ITS FALSE NEIGHBOUR: 'it returns false'. Refute it at one input. -/
def shardStepsWrong : ChangeSpec := { name := "shardSteps", fn := fun _ => fun
  | [d1, d2] => { results := [.lit (.bool false)], args := [d1, d2] }
  | _ => none }
def ShardStepsWrongFalsely : Prop := shardStepsRow.holds Tryz.pinned (OpenSpec.ofChange shardStepsWrong)

/- THE SECOND FORM. 'bulk': how many values and letters a reading holds, each counted each time it is reached (what is shared counts as often as it is met; a slice's spare places count too). A statement '..UptoSaid' is the law's where the arguments, and the package variables that the reading takes, are together of bulk at most 1048576: NARROWER than '..Said'. Prove '..Said' where nothing that the law and all that it calls make is longer than what came in: it says more and counts as full. Else prove '..UptoSaid'. A law counts once. -/
mutual
def uptoBulk {H : Type} : DataW H → Nat
  | .lit (.string bytes) => bytes.length + 1
  | .lit _ => 1
  | .nil => 1
  | .ptr d => uptoBulk d + 1
  | .slice elems spare => uptoBulkAll elems + uptoBulkAll spare + 1
  | .agg parts => uptoBulkAll parts + 1
  | .iface _ d => uptoBulk d + 1
  | .map entries => uptoBulkEntries entries + 1
  | .held _ => 1
def uptoBulkAll {H : Type} : List (DataW H) → Nat
  | [] => 0
  | d :: r => uptoBulk d + uptoBulkAll r
def uptoBulkEntries {H : Type} : List (Lit × DataW H) → Nat
  | [] => 0
  | x :: r => uptoBulkEntry x + uptoBulkEntries r
def uptoBulkEntry {H : Type} : Lit × DataW H → Nat
  | (.string bytes, d) => bytes.length + uptoBulk d + 1
  | (_, d) => uptoBulk d + 1
 end
def uptoSmall : (H : Type) → List (DataW H) → Bool := fun _ ds => decide (uptoBulkAll ds ≤ 1048576)
def OpenSpec.upto (s : _root_.Go.ChangeSpec) : _root_.Go.OpenSpec := { _root_.Go.OpenSpec.ofChange s with cond := some uptoSmall }

/-- 'heavykeyslaw29.ShardTier', WHERE WHAT IT READS IS OF BULK AT MOST 1048576: true; the input reads as it did. -/
def shardTierUptoRow : OpenClaim := { program := "ytdaookipaknoeaagreat", sum := "43ffaa1168919a22070f480fd63c0541199818f3a2bd629c24e654ff78b7100f", func := "heavykeys/heavykeyslaw29.ShardTier", spec := "shardTier", inPlace := ["math/bits.Add64", "internal/bytealg.abigen_runtime_cmpstring", "slices.overlaps[heavykeys/api.Entry]"], unfollowed := true, recurses := true, apart := false, narrowed := true }
def ShardTierUptoSaid : Prop := shardTierUptoRow.holds Tryz.pinned (OpenSpec.upto shardTierSpec)

/-- 'heavykeyslaw29.ShardEmpty', WHERE WHAT IT READS IS OF BULK AT MOST 1048576: true; the input reads as it did. -/
def shardEmptyUptoRow : OpenClaim := { program := "ytdaookipaknoeaagreat", sum := "43ffaa1168919a22070f480fd63c0541199818f3a2bd629c24e654ff78b7100f", func := "heavykeys/heavykeyslaw29.ShardEmpty", spec := "shardEmpty", inPlace := ["math/bits.Add64", "internal/bytealg.abigen_runtime_cmpstring", "slices.overlaps[heavykeys/api.Entry]"], unfollowed := true, recurses := true, apart := false, narrowed := true }
def ShardEmptyUptoSaid : Prop := shardEmptyUptoRow.holds Tryz.pinned (OpenSpec.upto shardEmptySpec)

/-- 'heavykeyslaw29.ShardNil', WHERE WHAT IT READS IS OF BULK AT MOST 1048576: true; the input reads as it did. -/
def shardNilUptoRow : OpenClaim := { program := "ytdaookipaknoeaagreat", sum := "43ffaa1168919a22070f480fd63c0541199818f3a2bd629c24e654ff78b7100f", func := "heavykeys/heavykeyslaw29.ShardNil", spec := "shardNil", inPlace := ["math/bits.Add64", "internal/bytealg.abigen_runtime_cmpstring", "slices.overlaps[heavykeys/api.Entry]"], unfollowed := true, recurses := true, apart := false, narrowed := true }
def ShardNilUptoSaid : Prop := shardNilUptoRow.holds Tryz.pinned (OpenSpec.upto shardNilSpec)

/-- 'heavykeyslaw29.ShardSteps', WHERE WHAT IT READS IS OF BULK AT MOST 1048576: true; the input reads as it did. -/
def shardStepsUptoRow : OpenClaim := { program := "ytdaookipaknoeaagreat", sum := "43ffaa1168919a22070f480fd63c0541199818f3a2bd629c24e654ff78b7100f", func := "heavykeys/heavykeyslaw29.ShardSteps", spec := "shardSteps", inPlace := ["math/bits.Add64", "internal/bytealg.abigen_runtime_cmpstring", "slices.overlaps[heavykeys/api.Entry]"], unfollowed := true, recurses := true, apart := false, narrowed := true }
def ShardStepsUptoSaid : Prop := shardStepsUptoRow.holds Tryz.pinned (OpenSpec.upto shardStepsSpec)

end Rows
end Go.Proofs.YtdaookipaknoeaaGreat
