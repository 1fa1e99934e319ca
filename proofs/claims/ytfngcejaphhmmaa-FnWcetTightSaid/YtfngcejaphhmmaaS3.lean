import Derived.Test.YtfngcejaphhmmaaS2
namespace Go.Proofs.Ytfngcejaphhmmaa
open Go.Abs Go.Ds
set_option linter.unusedSimpArgs false
set_option linter.unusedVariables false
set_option maxRecDepth 20000
def Picks (P : Program) (f : Nat) (first caps : List (Nat × Nat)) (σ : List AB) (L : List Job) (pick : Nat → List Int → Int) : Prop :=
  ∀ (τ : List AB) (m : Nat) (done : List Int) (now : Nat), now < 120 → Mach (σ ++ τ) m L done now → ∀ K : AV → List AB → Prop, K (.i .i64 (pick now done)) (σ ++ τ) → CallWp P f (pAV first ++ [.p m 0] ++ pAV caps) (σ ++ τ) K
theorem Picks.go {P : Program} {f : Nat} {first caps : List (Nat × Nat)} {σ : List AB} {L : List Job} {pick : Nat → List Int → Int} (h : Picks P f first caps σ L pick) {τ : List AB} {m : Nat} {done : List Int} {now : Nat} (hn : now < 120) (hm : Mach (σ ++ τ) m L done now)
    {K : AV → List AB → Prop} (hk : K (.i .i64 (pick now done)) (σ ++ τ)) : CallWp P f (pAV first ++ .p m 0 :: pAV caps) (σ ++ τ) K := by simpa using h τ m done now hn hm K hk
end Go.Proofs.Ytfngcejaphhmmaa
