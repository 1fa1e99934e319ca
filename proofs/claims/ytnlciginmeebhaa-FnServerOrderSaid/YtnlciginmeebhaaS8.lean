import Derived.Test.YtnlciginmeebhaaS7
namespace Go.Proofs.Ytnlciginmeebhaa
open Go.Abs Go.Ds
set_option linter.unusedSimpArgs false
set_option linter.unusedVariables false
set_option maxRecDepth 20000
theorem SchedQ.mono {N : Nat} {p q : Prop} {run fin : List Int} {x : AV} {τ : List AB} (h : SchedQ N p run fin x τ) (hp : p) (hq : q) : SchedQ N q run fin x τ := by
  rcases h with ⟨h1, _⟩ | ⟨_, h⟩
  · exact absurd hp h1
  · exact .inr ⟨hq, h⟩
theorem edf_key (L : List Job) : keyPick L (L.map Job.D) = edfPick L := by
  funext now done
  refine bestF_congr (fun _ _ => rfl) fun i hi => ?_
  simp [gI, List.getD_eq_getElem?_getD, hi]
theorem SchedQ.bel {N : Nat} {p : Prop} {run fin : List Int} {x : AV} {τ : List AB} (h : SchedQ N p run fin x τ) : τ.length ≤ 2 := by
  rcases h with ⟨_, _, rfl⟩ | ⟨_, c1, c2, ⟨_, _, rfl⟩ | ⟨_, _, rfl⟩⟩ <;> simp
end Go.Proofs.Ytnlciginmeebhaa
