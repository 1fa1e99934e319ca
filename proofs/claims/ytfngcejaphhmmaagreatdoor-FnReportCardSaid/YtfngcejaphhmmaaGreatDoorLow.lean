import Derived.Test.YtfngcejaphhmmaaGreatDoorProg
import Derived.Test.YtfngcejaphhmmaaGreatDoorLowA
import Derived.KernelRfl
namespace Go.Proofs.YtfngcejaphhmmaaGreatDoor
open Go.Abs
set_option maxRecDepth 100000
def c_math_bits_Mul64 : LC := .seq (.ops [⟨some 4, none, .mv (.k (.i .u64 0))⟩,
      ⟨some 5, none, .mv (.k (.i .u64 0))⟩])
    (.seq (.ops [⟨some 14, none, .mv (.t 0)⟩,
      ⟨some 15, none, .bin .and (.t 14) (.k (.i .u64 4294967295))⟩,
      ⟨some 6, none, .mv (.t 15)⟩])
    (.seq (.ops [⟨some 16, none, .mv (.t 0)⟩,
      ⟨some 17, none, .shr (.t 16) (.k (.i .u64 32))⟩,
      ⟨some 7, none, .mv (.t 17)⟩])
    (.seq (.ops [⟨some 18, none, .mv (.t 1)⟩,
      ⟨some 19, none, .bin .and (.t 18) (.k (.i .u64 4294967295))⟩,
      ⟨some 8, none, .mv (.t 19)⟩])
    (.seq (.ops [⟨some 20, none, .mv (.t 1)⟩,
      ⟨some 21, none, .shr (.t 20) (.k (.i .u64 32))⟩,
      ⟨some 9, none, .mv (.t 21)⟩])
    (.seq (.ops [⟨some 22, none, .mv (.t 6)⟩,
      ⟨some 23, none, .mv (.t 8)⟩,
      ⟨some 24, none, .bin .mul (.t 22) (.t 23)⟩,
      ⟨some 10, none, .mv (.t 24)⟩])
    (.seq (.ops [⟨some 25, none, .mv (.t 7)⟩,
      ⟨some 26, none, .mv (.t 8)⟩,
      ⟨some 27, none, .bin .mul (.t 25) (.t 26)⟩,
      ⟨some 28, none, .mv (.t 10)⟩,
      ⟨some 29, none, .shr (.t 28) (.k (.i .u64 32))⟩,
      ⟨some 30, none, .bin .add (.t 27) (.t 29)⟩,
      ⟨some 11, none, .mv (.t 30)⟩])
    (.seq (.ops [⟨some 31, none, .mv (.t 11)⟩,
      ⟨some 32, none, .bin .and (.t 31) (.k (.i .u64 4294967295))⟩,
      ⟨some 12, none, .mv (.t 32)⟩])
    (.seq (.ops [⟨some 33, none, .mv (.t 11)⟩,
      ⟨some 34, none, .shr (.t 33) (.k (.i .u64 32))⟩,
      ⟨some 13, none, .mv (.t 34)⟩])
    (.seq (.ops [⟨some 35, none, .mv (.t 12)⟩,
      ⟨some 36, none, .mv (.t 6)⟩,
      ⟨some 37, none, .mv (.t 9)⟩,
      ⟨some 38, none, .bin .mul (.t 36) (.t 37)⟩,
      ⟨some 39, none, .bin .add (.t 35) (.t 38)⟩,
      ⟨some 12, none, .mv (.t 39)⟩])
    (.seq (.ops [⟨some 40, none, .mv (.t 7)⟩,
      ⟨some 41, none, .mv (.t 9)⟩,
      ⟨some 42, none, .bin .mul (.t 40) (.t 41)⟩,
      ⟨some 43, none, .mv (.t 13)⟩,
      ⟨some 44, none, .bin .add (.t 42) (.t 43)⟩,
      ⟨some 45, none, .mv (.t 12)⟩,
      ⟨some 46, none, .shr (.t 45) (.k (.i .u64 32))⟩,
      ⟨some 47, none, .bin .add (.t 44) (.t 46)⟩,
      ⟨some 4, none, .mv (.t 47)⟩])
    (.seq (.ops [⟨some 48, none, .mv (.t 0)⟩,
      ⟨some 49, none, .mv (.t 1)⟩,
      ⟨some 50, none, .bin .mul (.t 48) (.t 49)⟩,
      ⟨some 5, none, .mv (.t 50)⟩])
    (.ret))))))))))))
theorem k_math_bits_Mul64 : chkF Tryz.prog Tryz.f120 51 c_math_bits_Mul64 [.t 4, .t 5] = true := by kernel_rfl
theorem call_math_bits_Mul64 {args : List AV} {σ : List AB} {K : AV → List AB → Prop} (hn : args.length ≤ 51) (hw : wpC Tryz.prog σ.length 51 c_math_bits_Mul64 (retP σ.length [.t 4, .t 5] K) ⟨initT 0 args, σ⟩) : CallWp Tryz.prog n_math_bits_Mul64 args σ K := call_fn mixed Tryz.func120 k_math_bits_Mul64 hn hw
end Go.Proofs.YtfngcejaphhmmaaGreatDoor
