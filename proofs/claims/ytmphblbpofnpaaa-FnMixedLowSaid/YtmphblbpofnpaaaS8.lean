import Derived.Test.YtmphblbpofnpaaaS7
namespace Go.Proofs.Ytmphblbpofnpaaa
open Go.Abs Go.Ds
set_option linter.unusedSimpArgs false
set_option linter.unusedVariables false
set_option maxRecDepth 20000
theorem SchedQ.mono {N : Nat} {p q : Prop} {run fin : List Int} {x : AV} {τ : List AB} (h : SchedQ N p run fin x τ) (hp : p) (hq : q) : SchedQ N q run fin x τ := by
  rcases h with ⟨h1, _⟩ | ⟨_, h⟩
  · exact absurd hp h1
  · exact .inr ⟨hq, h⟩
theorem SchedQ.bel {N : Nat} {p : Prop} {run fin : List Int} {x : AV} {τ : List AB} (h : SchedQ N p run fin x τ) : τ.length ≤ 2 := by
  rcases h with ⟨_, _, rfl⟩ | ⟨_, c1, c2, ⟨_, _, rfl⟩ | ⟨_, _, rfl⟩⟩ <;> simp
end Go.Proofs.Ytmphblbpofnpaaa
