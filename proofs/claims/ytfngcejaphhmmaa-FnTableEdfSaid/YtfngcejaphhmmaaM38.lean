import Derived.Test.YtfngcejaphhmmaaM37
namespace Go.Ds
def mixT (n i : Nat) (A B : List Int) : List Int := (List.range n).map fun (k : Nat) => if k < i then gI A k else gI B k
theorem mixT_len (n i : Nat) (A B : List Int) : (mixT n i A B).length = n := by simp [mixT]
theorem mixT_zero {n : Nat} {A B : List Int} (h : B.length = n) : mixT n 0 A B = B := by
  apply List.ext_getElem
  · simp [mixT, h]
  · intro i h1 h2
    simp [mixT, gI, List.getD_eq_getElem?_getD, h2]
theorem mixT_all {n : Nat} {A B : List Int} (h : A.length = n) : mixT n n A B = A := by
  apply List.ext_getElem
  · simp [mixT, h]
  · intro i h1 h2
    have : i < n := by rw [mixT_len] at h1; exact h1
    simp [mixT, gI, List.getD_eq_getElem?_getD, h2, this]
theorem mixT_get {n i k : Nat} {A B : List Int} (h : k < (mixT n i A B).length) : (mixT n i A B)[k] = if k < i then gI A k else gI B k := by simp [mixT]
theorem mixT_set {n i : Nat} {A B : List Int} {v : Int} (hv : gI A i = v) : (mixT n i A B).set i v = mixT n (i + 1) A B := by
  apply List.ext_getElem
  · simp [mixT]
  · intro k h1 h2
    rw [List.getElem_set, mixT_get h2]
    split
    · rename_i e; subst e; rw [if_pos (by omega)]; exact hv.symm
    · rename_i e
      rw [mixT_get (by rw [List.length_set] at h1; exact h1)]
      by_cases hk : k < i
      · rw [if_pos hk, if_pos (by omega)]
      · rw [if_neg hk, if_neg (by omega)]
theorem mixT_same {n i : Nat} {A B : List Int} (hv : gI A i = gI B i) : mixT n (i + 1) A B = mixT n i A B := by
  apply List.ext_getElem
  · simp [mixT]
  · intro k h1 h2
    rw [mixT_get, mixT_get]
    by_cases hk : k < i
    · rw [if_pos (by omega), if_pos hk]
    · by_cases e : k = i
      · subst e; rw [if_pos (by omega), if_neg hk]; exact hv
      · rw [if_neg (by omega), if_neg hk]
def duL (S : List Task) (t : Nat) : List Int := (List.range S.length).map fun (k : Nat) => if t = 0 then 0 else dueT S (t - 1) k
theorem duL_len (S : List Task) (t : Nat) : (duL S t).length = S.length := by simp [duL]
theorem duL_get {S : List Task} {t k : Nat} (hk : k < S.length) : gI (duL S t) k = if t = 0 then 0 else dueT S (t - 1) k := by
  have h : k < (duL S t).length := by rw [duL_len]; exact hk
  rw [show gI (duL S t) k = (duL S t)[k] by simp [gI, List.getD_eq_getElem?_getD, h]]
  simp [duL]
theorem duL_new {S : List Task} (hS : setOk S) {t k : Nat} (hk : k < S.length) (h : (t : Int) % (gT S k).P = 0) : gI (duL S (t + 1)) k = t + (gT S k).D := by
  rw [duL_get hk, if_neg (by omega)]
  unfold dueT
  rw [show t + 1 - 1 = t by omega]
  have e := Int.emod_add_mul_ediv (t : Int) (gT S k).P
  rw [h, Int.zero_add, Int.mul_comm] at e
  omega
theorem duL_old {S : List Task} (hS : setOk S) {t k : Nat} (hk : k < S.length) (h : (t : Int) % (gT S k).P ≠ 0) : gI (duL S (t + 1)) k = gI (duL S t) k := by
  have hx := gT_okN hS hk
  unfold Task.ok at hx
  rw [duL_get hk, duL_get hk, if_neg (by omega), show t + 1 - 1 = t by omega]
  rcases Nat.eq_zero_or_pos t with rfl | h0
  · exact absurd (by simp) h
  · rw [if_neg (by omega)]
    unfold dueT
    rcases div_next (P := (gT S k).P) (by omega) (t - 1) with ⟨g1, _⟩ | ⟨_, g2⟩
    · rw [show t - 1 + 1 = t by omega] at g1; exact absurd g1 h
    · rw [show t - 1 + 1 = t by omega] at g2; rw [g2]
theorem duL_due {S : List Task} {t k : Nat} (hk : k < S.length) : gI (duL S (t + 1)) k = dueT S t k := by
  rw [duL_get hk, if_neg (by omega), show t + 1 - 1 = t by omega]
end Go.Ds
