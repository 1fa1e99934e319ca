import Derived.Test.YtnlciginmeebhaaM40
import Derived.Test.YtnlciginmeebhaaM15
import Derived.Test.YtnlciginmeebhaaM36
namespace Go.Ds
section
variable {L : List Job} {pick : Nat → List Int → Int}
end
section
variable {X : List Srv} {AA : List (List Arr)} {L : List Job}
theorem wT_get {t k : Nat} (hk : k < X.length) : gV (wT X AA L t) k = admS (gS X k) (gAA AA k) t (svT X AA L t k) := admitAll_get hk
theorem goT_spec (t : Nat) : goT X AA L t = -1 ∨ ∃ c : Nat, goT X AA L t = c ∧ cand X.length (wT X AA L t) = c ∧ c < X.length ∧ pend (gV (wT X AA L t) c) = true ∧ (∀ k, k < X.length → pend (gV (wT X AA L t) k) = true → (gV (wT X AA L t) c).dl ≤ (gV (wT X AA L t) k).dl) ∧ (edfPick L t (srvS X AA L t).done = -1 ∨ (gV (wT X AA L t) c).dl < (L.getD (edfPick L t (srvS X AA L t).done).toNat default).D) :=
  go_spec X.length L (wT X AA L t) t (srvS X AA L t).done
end
def srvDen (X : List Srv) : Int := X.foldl (fun a x => a * x.P) 1
def srvNumD (D : Int) (X : List Srv) : Int := X.foldl (fun a x => a + D / x.P * x.B) 0
def srvNum (X : List Srv) : Int := srvNumD (srvDen X) X
def srvFeas (S : List Task) (X : List Srv) : Prop := setOk S ∧ srvOk X ∧ ∀ t : Int, 1 ≤ t → t ≤ hyperN S → dbf S t * srvDen X + t * srvNum X ≤ t * srvDen X
noncomputable instance (S : List Task) (X : List Srv) : Decidable (srvFeas S X) := Classical.propDecidable _
end Go.Ds
