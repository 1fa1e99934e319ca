import Derived.Test.YtgnlibnnpipbhaaMM
namespace Go.Ds
def hyperN (S : List Task) : Nat := S.foldl (fun h x => Nat.lcm h x.P.toNat) 1
def feas (S : List Task) : Prop := setOk S ∧ ∀ t : Int, 1 ≤ t → t ≤ hyperN S → dbf S t ≤ t
noncomputable instance (S : List Task) : Decidable (feas S) := Classical.propDecidable _
def FovP (S : List Task) (r : Int) : Prop := (r = -1 ∧ ∀ t : Int, 1 ≤ t → t ≤ hyperN S → dbf S t ≤ t) ∨ (1 ≤ r ∧ r ≤ hyperN S ∧ r < dbf S r ∧ ∀ t : Int, 1 ≤ t → t < r → dbf S t ≤ t)
theorem FovP.same {S : List Task} {r r' : Int} (h : FovP S r) (h' : FovP S r') : r = r' := by
  rcases h with ⟨h1, h2⟩ | ⟨h1, h2, h3, h4⟩ <;> rcases h' with ⟨g1, g2⟩ | ⟨g1, g2, g3, g4⟩
  · omega
  · have := h2 r' g1 g2; omega
  · have := g2 r h1 h2; omega
  · rcases Int.lt_trichotomy r r' with h | h | h
    · have := g4 r h1 h; omega
    · exact h
    · have := h4 r' g1 h; omega
end Go.Ds
