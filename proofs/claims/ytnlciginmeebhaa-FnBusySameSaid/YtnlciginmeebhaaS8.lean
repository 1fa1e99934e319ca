/- Contracts: runs of the reference, of no jobs; earliest deadline first. -/
import Derived.Test.YtnlciginmeebhaaS7
namespace Go.Proofs.Ytnlciginmeebhaa
open Go.Abs Go.Ds
set_option linter.unusedSimpArgs false
set_option linter.unusedVariables false
set_option maxRecDepth 20000

theorem simU_none (ks : List Int) : ∀ k, (simU [] (keyPick [] ks) k).run = List.replicate k (-1) ∧ (simU [] (keyPick [] ks) k).fin = []
  | 0 => ⟨rfl, rfl⟩
  | k + 1 => by
    obtain ⟨h1, h2⟩ := simU_none ks k
    have hp : keyPick [] ks k (simU [] (keyPick [] ks) k).done = -1 := rfl
    obtain ⟨_, e2, e3⟩ := simU_neg (L := []) (pick := keyPick [] ks) (k := k) (by rw [hp]; decide)
    rw [e2, e3, h1, h2, hp]
    exact ⟨by rw [List.replicate_succ'], rfl⟩

def runN (c c' : Nat) : Option (Nat × Nat) → St
  | none => ⟨[(0, .sl 0 0 0 c), (1, .sl 1 0 0 c'), (4, .p 2 0), (5, .p 3 0), (6, .sl 4 0 0 0), (8, .i .i64 0)], [.ro [], .ro [], .rw ty_impl_Schedule [.sn, .sn] 2, .rw ty_impl_Schedule [.sn, .sn] 2, .rw ty_int [] 0]⟩
  | some (c3, k) => ⟨[(0, .sl 0 0 0 c), (1, .sl 1 0 0 c'), (4, .p 2 0), (5, .p 3 0), (6, .sl 4 0 0 0), (8, .i .i64 k)], [.ro [], .ro [], .rw ty_impl_Schedule [.sn, .sn] 2, .rw ty_impl_Schedule [.sl 5 0 k c3, .sn] 2, .rw ty_int [] 0, .rw ty_int (encInt.row (List.replicate k (-1))) c3]⟩

theorem SchedQ.mono {N : Nat} {p q : Prop} {run fin : List Int} {x : AV} {τ : List AB} (h : SchedQ N p run fin x τ) (hp : p) (hq : q) : SchedQ N q run fin x τ := by
  rcases h with ⟨h1, _⟩ | ⟨_, h⟩
  · exact absurd hp h1
  · exact .inr ⟨hq, h⟩

theorem edf_key (L : List Job) : keyPick L (L.map Job.D) = edfPick L := by
  funext now done
  refine bestF_congr (fun _ _ => rfl) fun i hi => ?_
  simp [gI, List.getD_eq_getElem?_getD, hi]

theorem SchedQ.bel {N : Nat} {p : Prop} {run fin : List Int} {x : AV} {τ : List AB} (h : SchedQ N p run fin x τ) : τ.length ≤ 2 := by
  rcases h with ⟨_, _, rfl⟩ | ⟨_, c1, c2, ⟨_, _, rfl⟩ | ⟨_, _, rfl⟩⟩ <;> simp

end Go.Proofs.Ytnlciginmeebhaa
