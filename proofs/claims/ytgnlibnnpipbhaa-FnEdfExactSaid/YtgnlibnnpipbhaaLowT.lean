/- Lowered code of Go functions, printed by a program of this session (lower.py), and that it is the loaded code: checked by the kernel. -/
import Derived.Test.YtgnlibnnpipbhaaProg
import Derived.Test.YtgnlibnnpipbhaaLow
import Derived.KernelRfl
namespace Go.Proofs.Ytgnlibnnpipbhaa
open Go.Abs
set_option maxRecDepth 100000


-- slices.insertionSortCmpFunc[int]
-- region 4 draws, 17 of 17 first
-- region 6: a plan with 1 orders
-- l1_slices_insertionSortCmpFunc_int: live at the head: 0 1 2 3 8 22 23 24 25 26 27 28 29 30 31 32 33
-- l0_slices_insertionSortCmpFunc_int: live at the head: 0 1 2 3 8 9 22 23 24 25 26 27 28 29 30 31 32 33
def l0_slices_insertionSortCmpFunc_int : LC := .seq (.seq (.draw 17 [⟨some 18, none, .mv (.t 9)⟩,
      ⟨some 19, none, .mv (.t 1)⟩,
      ⟨some 20, none, .bin .gtr (.t 18) (.t 19)⟩,
      ⟨some 21, none, .mv (.t 20)⟩,
      ⟨some 22, (some (21, true)), .mv (.t 3)⟩,
      ⟨some 23, (some (21, true)), .mv (.t 0)⟩,
      ⟨some 24, (some (21, true)), .mv (.t 9)⟩,
      ⟨some 25, (some (21, true)), .ia 1 (.t 23) (.t 24)⟩,
      ⟨some 26, (some (21, true)), .ld (.t 25)⟩,
      ⟨some 27, (some (21, true)), .mv (.t 0)⟩,
      ⟨some 28, (some (21, true)), .mv (.t 9)⟩,
      ⟨some 29, (some (21, true)), .bin .sub (.t 28) (.k (.i .i64 1))⟩,
      ⟨some 30, (some (21, true)), .ia 1 (.t 27) (.t 29)⟩,
      ⟨some 31, (some (21, true)), .ld (.t 30)⟩,
      ⟨some 32, (some (21, true)), .call (.t 22) [.t 26, .t 31]⟩,
      ⟨some 33, (some (21, true)), .bin .lss (.t 32) (.k (.i .i64 0))⟩,
      ⟨some 34, none, .pick (.t 21) (.t 33) (.k (.b false))⟩])
    (.cond (.t 34) (.skip)
    (.exit 2)))
    (.seq (.block 3 (.plan [0, 1, 2, 3, 4, 5, 6, 7, 8, 9, 10, 11, 12, 13, 14] [⟨some 37, none, .mv (.t 0)⟩,
      ⟨some 38, none, .mv (.t 9)⟩,
      ⟨some 39, none, .mv (.t 0)⟩,
      ⟨some 40, none, .mv (.t 9)⟩,
      ⟨some 41, none, .bin .sub (.t 40) (.k (.i .i64 1))⟩,
      ⟨some 42, none, .mv (.t 0)⟩,
      ⟨some 43, none, .mv (.t 9)⟩,
      ⟨some 44, none, .bin .sub (.t 43) (.k (.i .i64 1))⟩,
      ⟨some 45, none, .ia 1 (.t 42) (.t 44)⟩,
      ⟨some 46, none, .ld (.t 45)⟩,
      ⟨some 47, none, .mv (.t 0)⟩,
      ⟨some 48, none, .mv (.t 9)⟩,
      ⟨some 49, none, .ia 1 (.t 47) (.t 48)⟩,
      ⟨some 50, none, .ld (.t 49)⟩,
      ⟨some 51, none, .ia 1 (.t 37) (.t 38)⟩]
      (.one 15 ⟨none, none, .st 1 (.t 51) (.t 46)⟩ [] [16]
        [⟨some 52, none, .ia 1 (.t 39) (.t 41)⟩]
      (.one 17 ⟨none, none, .st 1 (.t 52) (.t 50)⟩ [] []
        []
      .fin))))
    (.ops [⟨some 35, none, .mv (.t 9)⟩,
      ⟨some 36, none, .bin .sub (.t 35) (.k (.i .i64 1))⟩,
      ⟨some 9, none, .mv (.t 36)⟩]))
def l1_slices_insertionSortCmpFunc_int : LC := .seq (.seq (.ops [⟨some 12, none, .mv (.t 8)⟩,
      ⟨some 13, none, .mv (.t 2)⟩,
      ⟨some 14, none, .bin .lss (.t 12) (.t 13)⟩])
    (.cond (.t 14) (.skip)
    (.exit 0)))
    (.seq (.block 1 (.seq (.ops [⟨some 17, none, .mv (.t 8)⟩,
      ⟨some 9, none, .mv (.t 17)⟩])
    (.block 2 (.loop l0_slices_insertionSortCmpFunc_int))))
    (.ops [⟨some 15, none, .mv (.t 8)⟩,
      ⟨some 16, none, .bin .add (.t 15) (.k (.i .i64 1))⟩,
      ⟨some 8, none, .mv (.t 16)⟩]))
def c_slices_insertionSortCmpFunc_int : LC := .seq (.ops [⟨some 10, none, .mv (.t 1)⟩,
      ⟨some 11, none, .bin .add (.t 10) (.k (.i .i64 1))⟩,
      ⟨some 8, none, .mv (.t 11)⟩])
    (.block 0 (.loop l1_slices_insertionSortCmpFunc_int))
theorem k_slices_insertionSortCmpFunc_int : chkF Try.prog Try.f113 53 c_slices_insertionSortCmpFunc_int [] = true := by kernel_rfl
theorem call_slices_insertionSortCmpFunc_int {args : List AV} {σ : List AB} {K : AV → List AB → Prop} (hn : args.length ≤ 53) (hw : wpC Try.prog σ.length 53 c_slices_insertionSortCmpFunc_int (retP σ.length [] K) ⟨initT 0 args, σ⟩) : CallWp Try.prog n_slices_insertionSortCmpFunc_int args σ K := call_fn mixed Try.func113 k_slices_insertionSortCmpFunc_int hn hw
theorem callC_slices_insertionSortCmpFunc_int {args : List AV} {σ : List AB} {K : AV → List AB → Prop} (hn : args.length ≤ 53) (hw : Closed σ → args.all (below1 σ.length) = true → wpC Try.prog σ.length 53 c_slices_insertionSortCmpFunc_int (retP σ.length [] K) ⟨initT 0 args, σ⟩) : CallWp Try.prog n_slices_insertionSortCmpFunc_int args σ K := call_fnC mixed Try.func113 k_slices_insertionSortCmpFunc_int hn hw

end Go.Proofs.Ytgnlibnnpipbhaa
