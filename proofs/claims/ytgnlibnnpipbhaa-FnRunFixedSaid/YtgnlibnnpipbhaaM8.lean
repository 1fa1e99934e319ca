/- The plain law: priority orders and their ranks. Definitions in plain Lean; no program in sight. -/
import Derived.Test.YtgnlibnnpipbhaaM7
namespace Go.Ds

/-- The rank of a task. -/
def rank (O : List Int) (t : Int) : Int := idxF (fun y => decide (y = t)) O

theorem nodup_len : ∀ (n : Nat) (l : List Int), l.Nodup → (∀ x ∈ l, 0 ≤ x ∧ x < n) → l.length ≤ n
  | 0, l, _, h => by
    cases l with
    | nil => simp
    | cons a l => have := h a (by simp); omega
  | n + 1, l, hn, h => by
    by_cases hm : (n : Int) ∈ l
    · have h1 := nodup_len n (l.erase n) (hn.erase _) (fun x hx => by
        rw [hn.mem_erase_iff] at hx
        have := h x hx.2
        have h2 := hx.1
        omega)
      rw [List.length_erase_of_mem hm] at h1
      omega
    · have := nodup_len n l hn (fun x hx => by
        have h1 := h x hx
        have h2 : x ≠ n := fun e => hm (e ▸ hx)
        omega)
      omega

/-- An order names every task. -/
theorem ord_all {S : List Task} {O : List Int} (h : ordOk S O) {t : Int} (h0 : 0 ≤ t) (h1 : t < S.length) : t ∈ O := by
  refine Classical.byContradiction fun hno => ?_
  have := nodup_len S.length (t :: O) (List.nodup_cons.2 ⟨hno, h.2.2.2⟩) (fun x hx => by
    rcases List.mem_cons.1 hx with rfl | hx
    · exact ⟨h0, h1⟩
    · exact h.2.2.1 x hx)
  simp only [List.length_cons] at this
  have h2 := h.2.1
  omega

theorem rank_at {S : List Task} {O : List Int} (h : ordOk S O) {k : Nat} (hk : k < O.length) : rank O O[k] = k := by
  refine idxF_found hk (fun x hx => ?_) (by simp)
  refine decide_eq_false fun e => ?_
  obtain ⟨m, hm, e2⟩ := List.mem_take_iff_getElem.1 hx
  have := (List.getElem_inj h.2.2.2).1 (e2.trans e)
  omega

theorem rank_row {S : List Task} {O R : List Int} (h : ordOk S O) (hR : R.length = S.length) (hr : ∀ m (hm : m < O.length), gI R O[m] = m) {t : Int} (h0 : 0 ≤ t) (h1 : t < S.length) (ht : t.toNat < R.length) : R[t.toNat] = rank O t := by
  obtain ⟨m, hm, rfl⟩ := List.getElem_of_mem (ord_all h h0 h1)
  rw [rank_at h hm, ← hr m hm, gI_eq ht]
end Go.Ds
