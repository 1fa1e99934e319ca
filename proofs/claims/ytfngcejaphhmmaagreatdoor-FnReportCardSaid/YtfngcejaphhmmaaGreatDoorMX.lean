import Derived.Test.YtfngcejaphhmmaaGreatDoorMM
import Derived.Test.YtfngcejaphhmmaaGreatDoorMY
import Derived.Test.YtfngcejaphhmmaaGreatDoorM15
namespace Go.Ds
structure MTask where
  Lo : Int
  Hi : Int
  P : Int
  V : Bool
  deriving DecidableEq, Inhabited
def gM (S : List MTask) (k : Int) : MTask := S.getD k.toNat default
def MTask.ok (t : MTask) : Prop := (1 ≤ t.Lo ∧ t.Lo ≤ 8) ∧ (t.Lo ≤ t.Hi ∧ t.Hi ≤ t.P) ∧ t.P ≤ 12 ∧ (t.V = false → t.Hi = t.Lo)
instance (t : MTask) : Decidable t.ok := by unfold MTask.ok; infer_instance
def mixOk (S : List MTask) : Prop := S.length ≤ 5 ∧ ∀ t ∈ S, t.ok
instance (S : List MTask) : Decidable (mixOk S) := by unfold mixOk; infer_instance
theorem gM_nat {S : List MTask} {k : Nat} (h : k < S.length) : gM S k = S[k] := by simp [gM, List.getD_eq_getElem?_getD, h]
/-- The state of a mixed system. -/
structure MSt where
  high : Bool
  frm : Int
  first : Int
def vitJ (S : List MTask) (L : List Job) (i : Nat) : Bool := (gM S (L.getD i default).T).V
def lowOk (S : List MTask) (L : List Job) (frm : Int) (i : Nat) : Bool := vitJ S L i || decide (frm ≤ (L.getD i default).R)
def mixKey (S : List MTask) (nu de : Int) (L : List Job) (i : Nat) : Int := if vitJ S L i = true then (L.getD i default).R * de + (gM S (L.getD i default).T).P * nu else (L.getD i default).D * de
def vitBest (S : List MTask) (L : List Job) (now : Nat) (done : List Int) : Int := bestF L.length (fun i => readyJ L done now i && vitJ S L i) (keyD L)
def lowBest (S : List MTask) (nu de : Int) (L : List Job) (frm : Int) (now : Nat) (done : List Int) : Int := bestF L.length (fun i => readyJ L done now i && lowOk S L frm i) (mixKey S nu de L)
def overJ (S : List MTask) (L : List Job) (done : List Int) (i : Int) : Prop := 0 ≤ i ∧ vitJ S L i.toNat = true ∧ gI done i + 1 = (gM S (L.getD i.toNat default).T).Lo ∧ gI done i + 1 < (L.getD i.toNat default).E
instance (S : List MTask) (L : List Job) (done : List Int) (i : Int) : Decidable (overJ S L done i) := by unfold overJ; infer_instance
def frmOf (st : MSt) (now : Nat) : Int := if st.high = true then (now : Int) else st.frm
def mixPick (S : List MTask) (nu de : Int) (L : List Job) (st : MSt) (now : Nat) (done : List Int) : Int × MSt :=
  if st.high = true ∧ 0 ≤ vitBest S L now done then (vitBest S L now done, st)
  else if overJ S L done (lowBest S nu de L (frmOf st now) now done) then (lowBest S nu de L (frmOf st now) now done, ⟨true, frmOf st now, if st.first < 0 then (now : Int) + 1 else st.first⟩)
  else (lowBest S nu de L (frmOf st now) now done, ⟨false, frmOf st now, st.first⟩)
def mix0 : MSt := ⟨false, 0, -1⟩
abbrev mixS (S : List MTask) (nu de : Int) (L : List Job) (k : Nat) : Sch MSt := sim L (mixPick S nu de L) mix0 k
def LowInv (S : List MTask) (L : List Job) (st : MSt) (done : List Int) : Prop := st.high = true ∨ ∀ i, i < L.length → vitJ S L i = true → gI done i < (gM S (L.getD i default).T).Lo ∨ gI done i = (L.getD i default).E
/-- What a run keeps. -/
structure MixInv (S : List MTask) (nu de : Int) (L : List Job) (k : Nat) : Prop where
  len : (mixS S nu de L k).done.length = L.length
  pos : ∀ i, i < L.length → 0 ≤ gI (mixS S nu de L k).done i ∧ gI (mixS S nu de L k).done i ≤ (L.getD i default).E
  rel : ∀ i, i < L.length → 0 < gI (mixS S nu de L k).done i → (L.getD i default).R ≤ k
  frm : 0 ≤ (mixS S nu de L k).st.frm ∧ (mixS S nu de L k).st.frm ≤ k
  low : LowInv S L (mixS S nu de L k).st (mixS S nu de L k).done
end Go.Ds
/- The plain law: mixed criticality: legal patterns; the factor of the deadlines. Definitions in plain Lean; no program in sight. -/
namespace Go.Ds
def hiOf (S : List MTask) (t : Int) : Int := (gM S t).Hi
def perM (S : List MTask) (t : Int) : Int := (gM S t).P
def mixLegal (S : List MTask) (L : List Job) : Prop := mixOk S ∧ orderedP S.length (hiOf S) L ∧ spacedP Job.R (perM S) L ∧ ∀ j ∈ L, j.D = j.R + perM S j.T
noncomputable instance (S : List MTask) (L : List Job) : Decidable (mixLegal S L) := Classical.propDecidable _
def plainS (S : List MTask) : List Task := S.map fun t => ⟨1, t.P, t.P⟩
def shortJ (j : Job) : Job := ⟨j.T, j.R, j.D, 1⟩
def shortL (L : List Job) : List Job := L.map shortJ
theorem plain_ok {S : List MTask} (h : mixOk S) : setOk (plainS S) := by
  refine ⟨by simpa [plainS] using h.1, fun t ht => ?_⟩
  obtain ⟨x, hx, rfl⟩ := List.mem_map.1 ht
  have := h.2 x hx
  unfold MTask.ok at this
  unfold Task.ok
  simp only
  omega
theorem plain_gT {S : List MTask} {k : Int} (h0 : 0 ≤ k) (h1 : k < S.length) : gT (plainS S) k = ⟨1, (gM S k).P, (gM S k).P⟩ := by
  obtain ⟨q, rfl⟩ := Int.eq_ofNat_of_zero_le h0
  have hq : q < S.length := by omega
  rw [gM_nat hq, gT_nat (show q < (plainS S).length by simpa [plainS] using hq)]
  simp [plainS]
theorem lastAt_short {L : List Job} {t : Int} : lastAt Job.R (shortL L) t = lastAt Job.R L t := by
  unfold lastAt shortL
  rw [List.foldl_map]
  rfl
theorem legal_short {S : List MTask} (hS : mixOk S) {L : List Job} (hT : ∀ j ∈ L, (0 ≤ j.T ∧ j.T < S.length) ∧ 1 ≤ j.E ∧ j.E ≤ hiOf S j.T) : mixLegal S L ↔ jobsLegal (plainS S) (shortL L) := by
  have hlen : (plainS S).length = S.length := by simp [plainS]
  have hget : ∀ k (h : k < L.length), (shortL L)[k]'(by simpa [shortL] using h) = shortJ L[k] := fun k h => by simp [shortL]
  have hl : (shortL L).length = L.length := by simp [shortL]
  have hgt : ∀ j ∈ L, gT (plainS S) j.T = ⟨1, (gM S j.T).P, (gM S j.T).P⟩ := fun j hj => plain_gT (hT j hj).1.1 (hT j hj).1.2
  have hord : orderedP S.length (hiOf S) L ↔ orderedP (plainS S).length (costOf (plainS S)) (shortL L) := by
    unfold orderedP
    constructor
    · rintro ⟨h60, h⟩
      refine ⟨by omega, fun k hk => ?_⟩
      have hk' : k < L.length := by omega
      have := h k hk'
      have h2 := hT _ (List.getElem_mem hk')
      have h3 : costOf (plainS S) L[k].T = 1 := by unfold costOf; rw [hgt _ (List.getElem_mem hk')]
      unfold jrowAt at this ⊢
      simp only [hget k hk', hget (k - 1) (by omega), shortJ, h3, hlen]
      refine ⟨this.1, this.2.1, ⟨by omega, by omega⟩, this.2.2.2⟩
    · rintro ⟨h60, h⟩
      refine ⟨by omega, fun k hk => ?_⟩
      have := h k (by omega)
      have h2 := hT _ (List.getElem_mem hk)
      unfold jrowAt at this ⊢
      simp only [hget k hk, hget (k - 1) (by omega), shortJ, hlen] at this
      exact ⟨this.1, this.2.1, h2.2, this.2.2.2⟩
  have hsp : spacedP Job.R (perM S) L ↔ spacedP Job.R (perOf (plainS S)) (shortL L) := by
    unfold spacedP
    have key : ∀ k (hk : k < L.length), gapAt Job.R (perM S) L k hk ↔ gapAt Job.R (perOf (plainS S)) (shortL L) k (by omega) := fun k hk => by
      unfold gapAt
      have e1 : (shortL L).take k = shortL (L.take k) := by simp [shortL, List.map_take]
      have e2 : perOf (plainS S) L[k].T = perM S L[k].T := by unfold perOf; rw [hgt _ (List.getElem_mem hk)]; rfl
      rw [e1, hget k hk, lastAt_short]
      show (∀ b, lastAt Job.R (L.take k) L[k].T = some b → perM S L[k].T ≤ L[k].R - b) ↔ (∀ b, lastAt Job.R (L.take k) L[k].T = some b → perOf (plainS S) L[k].T ≤ L[k].R - b)
      rw [e2]
    exact ⟨fun h k hk => (key k (by omega)).1 (h k (by omega)), fun h k hk => (key k hk).2 (h k (by omega))⟩
  have hdl : (∀ j ∈ L, j.D = j.R + perM S j.T) ↔ ∀ j ∈ shortL L, j.D = j.R + (gT (plainS S) j.T).D := by
    constructor
    · intro h j hj
      obtain ⟨x, hx, rfl⟩ := List.mem_map.1 hj
      have h1 := h x hx
      show x.D = x.R + (gT (plainS S) x.T).D
      rw [hgt x hx]; exact h1
    · intro h j hj
      have h1 := h (shortJ j) (List.mem_map.2 ⟨j, hj, rfl⟩)
      change j.D = j.R + (gT (plainS S) j.T).D at h1
      rw [hgt j hj] at h1; exact h1
  unfold mixLegal jobsLegal
  rw [hord, hsp, hdl]
  exact ⟨fun h => ⟨plain_ok hS, h.2⟩, fun h => ⟨hS, h.2⟩⟩
theorem mixLegal.jobs {S : List MTask} {L : List Job} (h : mixLegal S L) : (∀ j ∈ L, (0 ≤ j.T ∧ j.T < S.length) ∧ 1 ≤ j.E ∧ j.E ≤ hiOf S j.T) ∧ jobsLegal (plainS S) (shortL L) := by
  have h1 : ∀ j ∈ L, (0 ≤ j.T ∧ j.T < S.length) ∧ 1 ≤ j.E ∧ j.E ≤ hiOf S j.T := fun j hj => ⟨(h.2.1.mem hj).1, (h.2.1.mem hj).2.2⟩
  exact ⟨h1, (legal_short h.1 h1).1 h⟩
end Go.Ds
/- The plain law: mixed criticality: what is left of the jobs, as the reference counts it. Definitions in plain Lean; no program in sight. -/
namespace Go.Ds
end Go.Ds
/- The plain law: mixed criticality: what a run shows. Definitions in plain Lean; no program in sight. -/
namespace Go.Ds
end Go.Ds
