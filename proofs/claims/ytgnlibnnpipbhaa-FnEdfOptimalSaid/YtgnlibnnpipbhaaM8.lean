/- The plain law: priority orders and their ranks. Definitions in plain Lean; no program in sight. -/
import Derived.Test.YtgnlibnnpipbhaaM7
import Derived.Test.YtgnlibnnpipbhaaM4
namespace Go.Ds

/-- The rank of a task. -/
def rank (O : List Int) (t : Int) : Int := idxF (fun y => decide (y = t)) O

/-- An order names every task. -/
theorem ord_all {S : List Task} {O : List Int} (h : ordOk S O) {t : Int} (h0 : 0 ≤ t) (h1 : t < S.length) : t ∈ O := by
  refine Classical.byContradiction fun hno => ?_
  have := nodup_len S.length (t :: O) (List.nodup_cons.2 ⟨hno, h.2.2.2⟩) (fun x hx => by
    rcases List.mem_cons.1 hx with rfl | hx
    · exact ⟨h0, h1⟩
    · exact h.2.2.1 x hx)
  simp only [List.length_cons] at this
  have h2 := h.2.1
  omega

theorem rank_at {S : List Task} {O : List Int} (h : ordOk S O) {k : Nat} (hk : k < O.length) : rank O O[k] = k := by
  refine idxF_found hk (fun x hx => ?_) (by simp)
  refine decide_eq_false fun e => ?_
  obtain ⟨m, hm, e2⟩ := List.mem_take_iff_getElem.1 hx
  have := (List.getElem_inj h.2.2.2).1 (e2.trans e)
  omega

theorem rank_row {S : List Task} {O R : List Int} (h : ordOk S O) (hR : R.length = S.length) (hr : ∀ m (hm : m < O.length), gI R O[m] = m) {t : Int} (h0 : 0 ≤ t) (h1 : t < S.length) (ht : t.toNat < R.length) : R[t.toNat] = rank O t := by
  obtain ⟨m, hm, rfl⟩ := List.getElem_of_mem (ord_all h h0 h1)
  rw [rank_at h hm, ← hr m hm, gI_eq ht]
end Go.Ds
