/- The plain law: jobs and legal release patterns. Definitions in plain Lean; no program in sight. -/
import Derived.Test.YtgnlibnnpipbhaaM2
namespace Go.Ds

structure Job where
  T : Int
  R : Int
  D : Int
  E : Int
  deriving DecidableEq, Inhabited

/-- The time of the last job of a task. -/
def lastAt (at_ : Job → Int) (L : List Job) : Int → Option Int := L.foldl (fun f j => fun u => if u = j.T then some (at_ j) else f u) (fun _ => none)

theorem lastAt_nil (at_ : Job → Int) : lastAt at_ [] = fun _ => none := rfl
theorem lastAt_succ (at_ : Job → Int) {L : List Job} {k : Nat} (h : k < L.length) : lastAt at_ (L.take (k + 1)) = fun u => if u = L[k].T then some (at_ L[k]) else lastAt at_ (L.take k) u := by
  rw [List.take_succ_eq_append_getElem h]
  simp only [lastAt, List.foldl_append, List.foldl_cons, List.foldl_nil]

theorem lastAt_mem (at_ : Job → Int) (L : List Job) (u b : Int) (h : lastAt at_ L u = some b) : ∃ j ∈ L, j.T = u ∧ at_ j = b := by
  have key : ∀ (L : List Job) (f : Int → Option Int), L.foldl (fun f j => fun u => if u = j.T then some (at_ j) else f u) f u = some b → (∃ j ∈ L, j.T = u ∧ at_ j = b) ∨ f u = some b := by
    intro L
    induction L with
    | nil => intro f h; exact .inr h
    | cons j L ih =>
      intro f h
      rcases ih _ h with ⟨x, hx, h1⟩ | h1
      · exact .inl ⟨x, by simp [hx], h1⟩
      · dsimp only at h1
        split at h1
        · rename_i e; exact .inl ⟨j, by simp, e.symm, by simpa using h1⟩
        · exact .inr h1
  rcases key L _ h with h1 | h1
  · exact h1
  · cases h1

def before (a b : Job) : Prop := a.R < b.R ∨ (a.R = b.R ∧ a.T < b.T)
instance (a b : Job) : Decidable (before a b) := by unfold before; infer_instance

/-- Job k of a list may stand where it stands. -/
def jrowAt (n : Int) (cost : Int → Int) (L : List Job) (k : Nat) (h : k < L.length) : Prop :=
  (0 ≤ L[k].T ∧ L[k].T < n) ∧ (0 ≤ L[k].R ∧ L[k].R ≤ 119) ∧ (1 ≤ L[k].E ∧ L[k].E ≤ cost L[k].T) ∧ (0 < k → before (L[k - 1]'(by omega)) L[k])

def orderedP (n : Int) (cost : Int → Int) (L : List Job) : Prop := L.length ≤ 60 ∧ ∀ k (h : k < L.length), jrowAt n cost L k h

def gapAt (at_ : Job → Int) (per : Int → Int) (L : List Job) (k : Nat) (h : k < L.length) : Prop :=
  ∀ b, lastAt at_ (L.take k) L[k].T = some b → per L[k].T ≤ at_ L[k] - b

def spacedP (at_ : Job → Int) (per : Int → Int) (L : List Job) : Prop := ∀ k (h : k < L.length), gapAt at_ per L k h

def costOf (S : List Task) (t : Int) : Int := (gT S t).C
def perOf (S : List Task) (t : Int) : Int := (gT S t).P
def arrOf (S : List Task) (j : Job) : Int := j.D - (gT S j.T).D

def jobsLegal (S : List Task) (L : List Job) : Prop :=
  setOk S ∧ orderedP S.length (costOf S) L ∧ spacedP Job.R (perOf S) L ∧ ∀ j ∈ L, j.D = j.R + (gT S j.T).D

def jitLegal (S : List Task) (J : List Int) (L : List Job) : Prop :=
  jitOk S J ∧ orderedP S.length (costOf S) L ∧ (∀ j ∈ L, ((gT S j.T).D ≤ j.D ∧ j.D ≤ 132) ∧ 0 ≤ j.R - arrOf S j ∧ j.R - arrOf S j ≤ gI J j.T) ∧ spacedP (arrOf S) (perOf S) L

theorem orderedP.mem {n : Int} {cost : Int → Int} {L : List Job} (h : orderedP n cost L) {j : Job} (hj : j ∈ L) : (0 ≤ j.T ∧ j.T < n) ∧ (0 ≤ j.R ∧ j.R ≤ 119) ∧ 1 ≤ j.E ∧ j.E ≤ cost j.T := by
  obtain ⟨k, hk, rfl⟩ := List.getElem_of_mem hj
  obtain ⟨h1, h2, h3, _⟩ := h.2 k hk
  exact ⟨h1, h2, h3⟩

/-- From when on a task may release again. -/
def nextOf (S : List Task) (at_ : Job → Int) (M : List Job) (t : Int) : Int := match lastAt at_ M t with | none => 0 | some b => b + perOf S t
def nextL (S : List Task) (at_ : Job → Int) (M : List Job) : List Int := (List.range S.length).map fun (t : Nat) => nextOf S at_ M t

theorem nextL_length (S : List Task) (at_ : Job → Int) (M : List Job) : (nextL S at_ M).length = S.length := by simp [nextL]
theorem nextL_nil (S : List Task) (at_ : Job → Int) : nextL S at_ [] = List.replicate S.length 0 := by
  apply List.ext_getElem
  · simp [nextL]
  · intro i h1 h2; simp [nextL, nextOf, lastAt]
theorem nextL_get (S : List Task) (at_ : Job → Int) (M : List Job) (i : Nat) (h : i < (nextL S at_ M).length) : (nextL S at_ M)[i] = nextOf S at_ M i := by simp [nextL]
theorem nextL_succ (S : List Task) (at_ : Job → Int) {L : List Job} {k : Nat} (h : k < L.length) (h0 : 0 ≤ L[k].T) :
    nextL S at_ (L.take (k + 1)) = (nextL S at_ (L.take k)).set L[k].T.toNat (at_ L[k] + perOf S L[k].T) := by
  apply List.ext_getElem
  · simp [nextL_length]
  · intro i h1 h2
    rw [nextL_get, List.getElem_set]
    unfold nextOf
    rw [lastAt_succ at_ h]
    by_cases e : L[k].T.toNat = i
    · have e2 : (i : Int) = L[k].T := by omega
      rw [if_pos e]; simp [e2]
    · have e2 : ¬ (i : Int) = L[k].T := by omega
      rw [if_neg e, nextL_get]; simp [e2, nextOf]

noncomputable instance (n : Int) (cost : Int → Int) (L : List Job) : Decidable (orderedP n cost L) := Classical.propDecidable _
noncomputable instance (a : Job → Int) (per : Int → Int) (L : List Job) : Decidable (spacedP a per L) := Classical.propDecidable _
noncomputable instance (S : List Task) (L : List Job) : Decidable (jobsLegal S L) := Classical.propDecidable _
noncomputable instance (S : List Task) (J : List Int) (L : List Job) : Decidable (jitLegal S J L) := Classical.propDecidable _
end Go.Ds
