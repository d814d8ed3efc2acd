/-
  What the printed conditions share: the functions with a body, and how slots of a frame are read.
-/
import Derived.Test.YtdaookipaknoeaaGreatProg
import Derived.Test.YtdaookipaknoeaaGreatVf
namespace Go.Proofs.YtdaookipaknoeaaGreat
open Go

theorem follows_mixed : Tryz.prog.follows .mixedOrders = true := by kernel_rfl

def bodied : List FuncId := [2, 3, 4, 5, 6, 7, 8, 9, 10, 11, 12, 13, 14, 15, 16, 17, 18, 19, 20, 21, 22, 23, 24, 25, 26, 27, 28, 29, 30, 31, 32, 33, 34, 35, 36, 37, 38, 39, 40, 41, 42, 43, 44, 45, 46, 47, 48, 49, 50, 51, 52, 53, 54, 55, 56, 57, 58, 59, 60, 61, 62, 63, 64, 65, 66, 67, 68, 69, 70, 71, 72, 73, 74, 75, 76, 77, 78, 79, 80, 81, 82, 83, 84, 85, 86, 87, 88, 89, 90, 91, 92, 93, 94, 95, 96, 97, 98, 99, 100, 101, 102, 103, 104, 105, 106, 107, 108, 109, 110, 111, 112, 113, 114, 115, 116, 117, 118, 119, 120, 121, 122, 123, 124, 125, 126, 127, 128, 129, 130, 131, 132, 133, 134, 135, 136, 137, 138, 139, 140, 141, 142, 143, 144, 145, 146, 147, 148, 149, 150, 151, 152, 153, 154, 155, 156, 157, 158, 159, 160, 161, 162, 164, 165, 166, 167, 168, 169, 170, 171, 172, 173, 174, 175, 176, 177, 178, 179, 180, 181, 182, 183, 184, 185, 186, 187, 188, 189, 190, 191, 193, 194, 195, 196, 197, 198, 199, 200, 201, 202, 203, 205, 206, 207, 208, 209, 210, 211, 212, 213, 214, 215, 216, 217, 218, 219, 220, 221, 222, 223, 224, 225, 226, 227, 228, 229, 248, 249, 250, 252, 253, 255, 256, 257, 258, 259, 260, 261, 262, 263, 264, 265, 266, 267, 268, 269, 270, 271, 272, 273, 274, 275, 276, 277, 278, 279, 280, 281, 282, 283, 284, 285, 286, 287, 288, 289, 290, 291, 292, 293, 294, 295, 296, 297, 298, 299, 300, 301, 302, 303, 304, 305, 306, 307, 308, 309, 310, 311, 312, 314, 315, 317, 318, 319, 320, 321, 322, 323, 324, 325, 326, 327]

theorem bodied_all : bodied.all (okF Tryz.prog) = true := by kernel_rfl

theorem bodied_ok : ∀ f, bodied.contains f = true → okF Tryz.prog f = true := fun f h => List.all_eq_true.1 bodied_all f (by simpa using h)

def slotV (a : Act) (i : Nat) : Value := a.tmps.getD i undef
def slotI (a : Act) (i : Nat) : Int := match a.tmps.getD i undef with | .int _ n => n | _ => 0
def slotB (a : Act) (i : Nat) : Bool := match a.tmps.getD i undef with | .bool b => b | _ => false
def slotS (a : Act) (i : Nat) : ByteArray := match a.tmps.getD i undef with | .string s => s | _ => ⟨#[]⟩
def slotA (a : Act) (i : Nat) : Option Addr := match a.tmps.getD i undef with | .slice A _ _ => A | _ => none
def slotN (a : Act) (i : Nat) : Nat := match a.tmps.getD i undef with | .slice _ n _ => n | _ => 0
def slotC (a : Act) (i : Nat) : Nat := match a.tmps.getD i undef with | .slice _ _ c => c | _ => 0
def slotP (a : Act) (i : Nat) : Option Addr := match a.tmps.getD i undef with | .pointer p => p | _ => none
def slotK (a : Act) (i : Nat) : Nat := match a.tmps.getD i undef with | .pointer (some p) => p.block | _ => 0
def slotR (a : Act) (i : Nat) : Option Nat := match a.tmps.getD i undef with | .map r => r | _ => none
def slotCs (a : Act) (i : Nat) : Array Value := match a.tmps.getD i undef with | .agg cs => cs | _ => #[]

theorem ite_elim {c : Prop} [Decidable c] {A B R : Prop} (h : if c then A else B) (ht : c → A → R) (hf : ¬ c → B → R) : R := by
  split at h
  · exact ht ‹_› h
  · exact hf ‹_› h

end Go.Proofs.YtdaookipaknoeaaGreat
