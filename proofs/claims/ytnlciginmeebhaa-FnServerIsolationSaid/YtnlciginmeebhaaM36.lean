import Derived.Test.YtnlciginmeebhaaM35
namespace Go.Ds
theorem sumI_atT {v : Int} {t : Int} : ∀ m : Nat, 0 ≤ t → sumI (fun k => if t = (k : Int) then v else 0) m = if t < m then v else 0
  | 0, h => by rw [if_neg (by omega)]; rfl
  | m + 1, h => by
    simp only [sumI]
    rw [sumI_atT m h]
    by_cases h1 : t = (m : Int)
    · rw [if_neg (by omega), if_pos h1, if_pos (by omega)]; omega
    · rw [if_neg h1]
      by_cases h2 : t < (m : Int)
      · rw [if_pos h2, if_pos (by omega)]; omega
      · rw [if_neg h2, if_neg (by omega)]; omega
end Go.Ds
