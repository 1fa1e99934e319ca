import Derived.Test.YtfngcejaphhmmaaGreatDoorMX
import Derived.Test.YtfngcejaphhmmaaGreatDoorMM
namespace Go.Ds
def gNext (L : List Job) (now : Nat) (done : List Int) (o : List Nat) : Int := bestF L.length (fun i => readyJ L done now i && !(o.contains i)) fun i => (L.getD i default).D
def gSel (L : List Job) (now : Nat) (done : List Int) : Nat → List Nat
  | 0 => []
  | n + 1 => if gNext L now done (gSel L now done n) < 0 then gSel L now done n else gSel L now done n ++ [(gNext L now done (gSel L now done n)).toNat]
structure GSt where
  done : List Int
  fin : List Int
def gDo1 (L : List Job) (now : Nat) (s : GSt) (i : Nat) : GSt := ⟨s.done.set i (gI s.done i + 1), if gI s.done i + 1 = (L.getD i default).E then s.fin.set i (now + 1) else s.fin⟩
def gDo (L : List Job) (now : Nat) (r : List Nat) (s : GSt) : GSt := r.foldl (gDo1 L now) s
def gSt (L : List Job) (m : Nat) : Nat → GSt
  | 0 => ⟨List.replicate L.length 0, List.replicate L.length (-1)⟩
  | t + 1 => gDo L t (gSel L t (gSt L m t).done m) (gSt L m t)
def gDn (L : List Job) (m t i : Nat) : Int := gI (gSt L m t).done i
section
variable {L : List Job} {now : Nat} {done : List Int}
structure SelI (L : List Job) (now : Nat) (done : List Int) (n : Nat) (o : List Nat) : Prop where
  nd : o.Nodup
  lt : ∀ i ∈ o, i < L.length
  rdy : ∀ i ∈ o, readyJ L done now i = true
  len : o.length ≤ n
  full : ∀ i, i < L.length → readyJ L done now i = true → i ∉ o → o.length = n ∧ ∀ j ∈ o, (L.getD j default).D ≤ (L.getD i default).D
end
section
variable {L : List Job} {m : Nat}
/-- What a run keeps. -/
structure GInv (L : List Job) (m t i : Nat) : Prop where
  pos : 0 ≤ gDn L m t i
  le : gDn L m t i ≤ (L.getD i default).E
  rel : 0 < gDn L m t i → (L.getD i default).R < t
  fin : (gDn L m t i < (L.getD i default).E ∧ gI (gSt L m t).fin i = -1) ∨ (gDn L m t i = (L.getD i default).E ∧ 1 ≤ gI (gSt L m t).fin i ∧ gI (gSt L m t).fin i ≤ t)
end
end Go.Ds
