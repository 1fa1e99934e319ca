import Derived.Test.YtgnlibnnpipbhaaC1
namespace Go.Proofs.Ytgnlibnnpipbhaa
open Go.Abs Go.Ds
set_option linter.unusedSimpArgs false
set_option linter.unusedVariables false
set_option maxRecDepth 20000
theorem spl_eq (z r : List AV) (o : Nat) (h : o + r.length ≤ z.length) : spl z o r = z.take o ++ (r ++ z.drop (o + r.length)) := by
  apply List.ext_getElem?
  intro j
  rw [spl_get _ _ _ _ h]
  by_cases h1 : j < o
  · rw [if_neg (by omega), List.getElem?_append_left (by rw [List.length_take]; omega), List.getElem?_take, if_pos h1]
  · rw [List.getElem?_append_right (by rw [List.length_take]; omega), List.length_take, Nat.min_eq_left (by omega)]
    by_cases h2 : j < o + r.length
    · rw [if_pos (by omega), List.getElem?_append_left (by omega)]
    · rw [if_neg (by omega), List.getElem?_append_right (by omega), List.getElem?_drop]
      congr 1; omega
end Go.Proofs.Ytgnlibnnpipbhaa
