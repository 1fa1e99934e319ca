/- Lowered code of Go functions, printed by a program of this session (lower.py), and that it is the loaded code: checked by the kernel. -/
import Derived.Test.YtnlciginmeebhaaProg
import Derived.Test.YtnlciginmeebhaaLow
import Derived.KernelRfl
namespace Go.Proofs.Ytnlciginmeebhaa
open Go.Abs
set_option maxRecDepth 100000


-- slices.stableCmpFunc[int]
-- l2_slices_stableCmpFunc_int: live at the head: 0 1 2 6 7 8
-- l1_slices_stableCmpFunc_int: live at the head: 0 1 2 6
-- l0_slices_stableCmpFunc_int: live at the head: 0 1 2 6 7 8
def l0_slices_stableCmpFunc_int : LC := .seq (.seq (.ops [⟨some 33, none, .mv (.t 8)⟩,
      ⟨some 34, none, .mv (.t 1)⟩,
      ⟨some 35, none, .bin .leq (.t 33) (.t 34)⟩])
    (.cond (.t 35) (.skip)
    (.exit 4)))
    (.block 5 (.seq (.ops [⟨some 36, none, .mv (.t 0)⟩,
      ⟨some 37, none, .mv (.t 7)⟩,
      ⟨some 38, none, .mv (.t 7)⟩,
      ⟨some 39, none, .mv (.t 6)⟩,
      ⟨some 40, none, .bin .add (.t 38) (.t 39)⟩,
      ⟨some 41, none, .mv (.t 8)⟩,
      ⟨some 42, none, .mv (.t 2)⟩,
      ⟨some 43, none, .call (.k (.fn n_slices_symMergeCmpFunc_int [] [])) [.t 36, .t 37, .t 40, .t 41, .t 42]⟩])
    (.seq (.ops [⟨some 44, none, .mv (.t 8)⟩,
      ⟨some 7, none, .mv (.t 44)⟩])
    (.ops [⟨some 45, none, .mv (.t 8)⟩,
      ⟨some 46, none, .mv (.t 6)⟩,
      ⟨some 47, none, .bin .mul (.k (.i .i64 2)) (.t 46)⟩,
      ⟨some 48, none, .bin .add (.t 45) (.t 47)⟩,
      ⟨some 8, none, .mv (.t 48)⟩]))))
def l1_slices_stableCmpFunc_int : LC := .seq (.seq (.ops [⟨some 28, none, .mv (.t 6)⟩,
      ⟨some 29, none, .mv (.t 1)⟩,
      ⟨some 30, none, .bin .lss (.t 28) (.t 29)⟩])
    (.cond (.t 30) (.skip)
    (.exit 2)))
    (.block 3 (.seq (.ops [⟨some 31, none, .mv (.t 6)⟩,
      ⟨some 32, none, .bin .mul (.k (.i .i64 2)) (.t 31)⟩,
      ⟨some 7, none, .mv (.k (.i .i64 0))⟩,
      ⟨some 8, none, .mv (.t 32)⟩])
    (.seq (.block 4 (.loop l0_slices_stableCmpFunc_int))
    (.seq (.seq (.ops [⟨some 49, none, .mv (.t 7)⟩,
      ⟨some 50, none, .mv (.t 6)⟩,
      ⟨some 51, none, .bin .add (.t 49) (.t 50)⟩,
      ⟨some 9, none, .mv (.t 51)⟩])
    (.seq (.ops [⟨some 52, none, .mv (.t 9)⟩,
      ⟨some 53, none, .mv (.t 1)⟩,
      ⟨some 54, none, .bin .lss (.t 52) (.t 53)⟩])
    (.cond (.t 54) (.ops [⟨some 55, none, .mv (.t 0)⟩,
      ⟨some 56, none, .mv (.t 7)⟩,
      ⟨some 57, none, .mv (.t 9)⟩,
      ⟨some 58, none, .mv (.t 1)⟩,
      ⟨some 59, none, .mv (.t 2)⟩,
      ⟨some 60, none, .call (.k (.fn n_slices_symMergeCmpFunc_int [] [])) [.t 55, .t 56, .t 57, .t 58, .t 59]⟩])
    (.skip))))
    (.ops [⟨some 61, none, .mv (.t 6)⟩,
      ⟨some 62, none, .bin .mul (.t 61) (.k (.i .i64 2))⟩,
      ⟨some 6, none, .mv (.t 62)⟩])))))
def l2_slices_stableCmpFunc_int : LC := .seq (.seq (.ops [⟨some 11, none, .mv (.t 8)⟩,
      ⟨some 12, none, .mv (.t 1)⟩,
      ⟨some 13, none, .bin .leq (.t 11) (.t 12)⟩])
    (.cond (.t 13) (.skip)
    (.exit 0)))
    (.block 1 (.seq (.ops [⟨some 14, none, .mv (.t 0)⟩,
      ⟨some 15, none, .mv (.t 7)⟩,
      ⟨some 16, none, .mv (.t 8)⟩,
      ⟨some 17, none, .mv (.t 2)⟩,
      ⟨some 18, none, .call (.k (.fn n_slices_insertionSortCmpFunc_int [] [])) [.t 14, .t 15, .t 16, .t 17]⟩])
    (.seq (.ops [⟨some 19, none, .mv (.t 8)⟩,
      ⟨some 7, none, .mv (.t 19)⟩])
    (.ops [⟨some 20, none, .mv (.t 8)⟩,
      ⟨some 21, none, .mv (.t 6)⟩,
      ⟨some 22, none, .bin .add (.t 20) (.t 21)⟩,
      ⟨some 8, none, .mv (.t 22)⟩]))))
def c_slices_stableCmpFunc_int : LC := .seq (.ops [⟨some 6, none, .mv (.k (.i .i64 20))⟩])
    (.seq (.ops [⟨some 10, none, .mv (.t 6)⟩,
      ⟨some 7, none, .mv (.k (.i .i64 0))⟩,
      ⟨some 8, none, .mv (.t 10)⟩])
    (.seq (.block 0 (.loop l2_slices_stableCmpFunc_int))
    (.seq (.ops [⟨some 23, none, .mv (.t 0)⟩,
      ⟨some 24, none, .mv (.t 7)⟩,
      ⟨some 25, none, .mv (.t 1)⟩,
      ⟨some 26, none, .mv (.t 2)⟩,
      ⟨some 27, none, .call (.k (.fn n_slices_insertionSortCmpFunc_int [] [])) [.t 23, .t 24, .t 25, .t 26]⟩])
    (.block 2 (.loop l1_slices_stableCmpFunc_int)))))
theorem k_slices_stableCmpFunc_int : chkF Try.prog Try.f98 63 c_slices_stableCmpFunc_int [] = true := by kernel_rfl
theorem call_slices_stableCmpFunc_int {args : List AV} {σ : List AB} {K : AV → List AB → Prop} (hn : args.length ≤ 63) (hw : wpC Try.prog σ.length 63 c_slices_stableCmpFunc_int (retP σ.length [] K) ⟨initT 0 args, σ⟩) : CallWp Try.prog n_slices_stableCmpFunc_int args σ K := call_fn mixed Try.func98 k_slices_stableCmpFunc_int hn hw

end Go.Proofs.Ytnlciginmeebhaa
