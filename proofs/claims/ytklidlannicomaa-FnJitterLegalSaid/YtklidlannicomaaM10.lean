/- The plain law: legal release patterns with jitter and without. Definitions in plain Lean; no program in sight. -/
import Derived.Test.YtklidlannicomaaM3
import Derived.Test.YtklidlannicomaaM4
namespace Go.Ds

theorem lastAt_congr {a b : Job → Int} {L : List Job} (h : ∀ j ∈ L, a j = b j) : lastAt a L = lastAt b L := by
  unfold lastAt
  generalize (fun _ : Int => (none : Option Int)) = f
  induction L generalizing f with
  | nil => rfl
  | cons j L ih =>
    simp only [List.foldl_cons]
    rw [h j (by simp)]
    exact ih (fun x hx => h x (by simp [hx])) _

theorem spaced_congr {a b : Job → Int} {per : Int → Int} {L : List Job} (h : ∀ j ∈ L, a j = b j) : spacedP a per L ↔ spacedP b per L := by
  unfold spacedP gapAt
  constructor <;> intro hh k hk c hc
  · have := hh k hk c (by rw [lastAt_congr fun j hj => h j (List.mem_of_mem_take hj)]; exact hc)
    rw [h _ (List.getElem_mem hk)] at this; exact this
  · have := hh k hk c (by rw [← lastAt_congr fun j hj => h j (List.mem_of_mem_take hj)]; exact hc)
    rw [← h _ (List.getElem_mem hk)] at this; exact this

theorem legal_zero (S : List Task) (L : List Job) : jitLegal S (List.replicate S.length 0) L ↔ jobsLegal S L := by
  have z : ∀ j : Job, (0 ≤ j.T ∧ j.T < S.length) → gI (List.replicate S.length 0) j.T = 0 := fun j hj => by
    exact gI_zeros _ _
  constructor
  · rintro ⟨h1, h2, h3, h4⟩
    have e : ∀ j ∈ L, arrOf S j = j.R := fun j hj => by
      have := (h3 j hj).2
      rw [z j (h2.mem hj).1] at this
      omega
    refine ⟨h1.1, h2, (spaced_congr e).1 h4, fun j hj => ?_⟩
    have := e j hj
    unfold arrOf at this
    omega
  · rintro ⟨h1, h2, h3, h4⟩
    have e : ∀ j ∈ L, arrOf S j = j.R := fun j hj => by
      have := h4 j hj
      unfold arrOf
      omega
    refine ⟨zeros_ok h1, h2, fun j hj => ?_, (spaced_congr e).2 h3⟩
    have t := gT_ok h1 (h2.mem hj).1.1 (h2.mem hj).1.2
    unfold Task.ok at t
    have := h4 j hj
    have := (h2.mem hj).2.1
    rw [e j hj, z j (h2.mem hj).1]
    omega

/-- The most jitter that a set bears. -/
def mostJ (S : List Task) : List Int := S.map fun t => t.D - t.C
theorem most_ok {S : List Task} (h : setOk S) : jitOk S (mostJ S) := by
  refine ⟨h, by simp [mostJ], fun p hp => ?_⟩
  unfold mostJ at hp
  obtain ⟨i, hi, rfl⟩ := List.getElem_of_mem hp
  simp only [List.length_zip, List.length_map] at hi
  have ht := h.2 _ (List.getElem_mem (show i < S.length by omega))
  unfold Task.ok at ht
  simp only [List.getElem_zip, List.getElem_map]
  omega
theorem legal_most {S : List Task} {J : List Int} {L : List Job} (h : jitLegal S J L) : jitLegal S (mostJ S) L := by
  obtain ⟨h1, h2, h3, h4⟩ := h
  refine ⟨most_ok h1.1, h2, fun j hj => ⟨(h3 j hj).1, (h3 j hj).2.1, ?_⟩, h4⟩
  have hm := (h2.mem hj).1
  have ht : j.T.toNat < S.length := by omega
  have hJ : j.T.toNat < J.length := by have := h1.2.1; omega
  have hp := h1.2.2 (S[j.T.toNat], J[j.T.toNat]) (by
    refine List.mem_iff_getElem.2 ⟨j.T.toNat, by simp only [List.length_zip]; omega, by simp⟩)
  simp only at hp
  have e1 : gI J j.T = J[j.T.toNat] := gI_eq hJ
  have e2 : gI (mostJ S) j.T = S[j.T.toNat].D - S[j.T.toNat].C := by
    rw [gI_eq (by simp only [mostJ, List.length_map]; exact ht)]; simp [mostJ]
  have := (h3 j hj).2.2
  rw [e1] at this
  rw [e2]
  omega
end Go.Ds
