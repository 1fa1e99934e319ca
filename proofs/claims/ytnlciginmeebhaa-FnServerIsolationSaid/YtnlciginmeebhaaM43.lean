import Derived.Test.YtnlciginmeebhaaM41
namespace Go.Ds
theorem gR_set {R : List (List Int)} {k : Nat} (h : k < R.length) (v : List Int) (i : Nat) : gR (R.set k v) i = if k = i then v else gR R i := by
  unfold gR
  simp only [List.getD_eq_getElem?_getD, List.getElem?_set]
  by_cases e : k = i
  · subst e; simp [h]
  · simp [e]
theorem comes_eq (x : Srv) (now : Int) (s : Sv) : (comes x now s).at_ = s.at_ ∧ (comes x now s).done = s.done ∧ (comes x now s).came = s.came + 1 := by
  unfold comes; split <;> exact ⟨rfl, rfl, rfl⟩
theorem admitN_eq (x : Srv) (A : List Arr) (now : Int) : ∀ (n : Nat) (s : Sv), (admitN x A now n s).at_ = s.at_ ∧ (admitN x A now n s).done = s.done ∧ s.came ≤ (admitN x A now n s).came
  | 0, s => ⟨rfl, rfl, Nat.le_refl _⟩
  | n + 1, s => by
    unfold admitN
    split
    · have h1 := admitN_eq x A now n (comes x now s)
      have h2 := comes_eq x now s
      rw [h2.1, h2.2.1, h2.2.2] at h1
      exact ⟨h1.1, h1.2.1, by omega⟩
    · exact ⟨rfl, rfl, Nat.le_refl _⟩
theorem admit_at (x : Srv) (A : List Arr) (now : Int) (s : Sv) : (admS x A now s).at_ = s.at_ ∧ (admS x A now s).done = s.done := ⟨(admitN_eq x A now _ s).1, (admitN_eq x A now _ s).2.1⟩
def arrsOk (X : List Srv) (AA : List (List Arr)) : Prop := AA.length = X.length ∧ ∀ A ∈ AA, arrLegal A
theorem arrsOk.at {X : List Srv} {AA : List (List Arr)} (h : arrsOk X AA) {k : Nat} (hk : k < X.length) : arrLegal (gAA AA k) := by
  have hk' : k < AA.length := by have := h.1; omega
  rw [show gAA AA k = AA[k] by simp [gAA, List.getD_eq_getElem?_getD, hk']]
  exact h.2 _ (List.getElem_mem hk')
section
variable {X : List Srv} {AA : List (List Arr)} {L : List Job}
theorem ss_len (hA : AA.length = X.length) : ∀ t : Nat, (srvS X AA L t).st.sd.length = X.length ∧ (srvS X AA L t).st.ch.length = 120 ∧ ∀ k, k < X.length → (gR (srvS X AA L t).st.sd k).length = (gAA AA k).length
  | 0 => by
    refine ⟨by simp [srvS, sim, ss0, hA], by simp [srvS, sim, ss0], fun k hk => ?_⟩
    have hk' : k < AA.length := by omega
    simp [srvS, sim, ss0, gR, gAA, List.getD_eq_getElem?_getD, hk']
  | t + 1 => by
    have ih := ss_len hA t
    rcases goT_spec (X := X) (AA := AA) (L := L) t with e | ⟨c, e, _, hc, _⟩
    · rw [(st_neg e).1]; exact ih
    · rw [(st_pos e).1]
      refine ⟨?_, ?_, fun k hk => ?_⟩
      · simp only
        split
        · rw [List.length_set]; exact ih.1
        · exact ih.1
      · simp only; rw [List.length_set]; exact ih.2.1
      · simp only
        split
        · rw [gR_set (by rw [ih.1]; exact hc)]
          split
          · rename_i e2; subst e2; rw [List.length_set]; exact ih.2.2 _ hk
          · exact ih.2.2 k hk
        · exact ih.2.2 k hk
theorem sd_step (hA : AA.length = X.length) {t k : Nat} (hk : k < X.length) : gR (srvS X AA L (t + 1)).st.sd k = if goT X AA L t = k ∧ ends (gAA AA k) (gV (wT X AA L t) k) = true then (gR (srvS X AA L t).st.sd k).set (gV (wT X AA L t) k).at_ (t + 1) else gR (srvS X AA L t).st.sd k := by
  have hl := ss_len (L := L) hA t
  rcases goT_spec (X := X) (AA := AA) (L := L) t with e | ⟨c, e, _, hc, _⟩
  · rw [(st_neg e).1, if_neg (fun g => by have := g.1; omega)]
  · rw [(st_pos e).1]
    simp only
    by_cases h : c = k
    · subst h
      by_cases he : ends (gAA AA c) (gV (wT X AA L t) c) = true
      · rw [if_pos he, gR_set (by rw [hl.1]; exact hc), if_pos rfl, if_pos ⟨e, he⟩]
      · rw [if_neg he, if_neg (fun g => he g.2)]
    · by_cases he : ends (gAA AA c) (gV (wT X AA L t) c) = true
      · rw [if_pos he, gR_set (by rw [hl.1]; exact hc), if_neg h, if_neg (fun g => h (by have := g.1; omega))]
      · rw [if_neg he, if_neg (fun g => h (by have := g.1; omega))]
theorem ch_at (hA : AA.length = X.length) : ∀ (t u : Nat), t ≤ 120 → u < 120 → gI (srvS X AA L t).st.ch u = if u < t then goT X AA L u else -1
  | 0, u, _, hu => by
    rw [if_neg (Nat.not_lt_zero u)]
    exact gI_rep _ _ _ hu
  | t + 1, u, ht, hu => by
    have ih := ch_at hA t u (by omega) hu
    have hl := (ss_len (L := L) hA t).2.1
    rcases goT_spec (X := X) (AA := AA) (L := L) t with e | ⟨c, e, _⟩
    · rw [(st_neg e).1]
      simp only
      rw [ih]
      by_cases h : u = t
      · subst h; rw [if_neg (by omega), if_pos (by omega), e]
      · by_cases h2 : u < t
        · rw [if_pos h2, if_pos (by omega)]
        · rw [if_neg h2, if_neg (by omega)]
    · rw [(st_pos e).1]
      simp only
      rw [gI_set (by omega)]
      by_cases h : t = u
      · subst h; rw [if_pos rfl, if_pos (by omega), e]
      · rw [if_neg h, ih]
        by_cases h2 : u < t
        · rw [if_pos h2, if_pos (by omega)]
        · rw [if_neg h2, if_neg (by omega)]
def sumE (A : List Arr) (m : Nat) : Int := sumI (fun q => (gA A q).e) m
structure OrdI (A : List Arr) (s : Sv) (row : List Int) (cnt : Int) (t : Nat) : Prop where
  before : ∀ i, i < s.at_ → (1 ≤ gI row i ∧ gI row i ≤ t) ∧ (gA A i).t + (gA A i).e ≤ gI row i
  after : ∀ i, i < A.length → s.at_ ≤ i → gI row i = -1
  asc : ∀ i, 0 < i → i < s.at_ → gI row (i - 1 : Nat) < gI row i
  cnt : cnt = sumE A s.at_ + s.done
  busy : 0 < s.done → s.at_ < s.came ∧ (gA A s.at_).t + s.done ≤ t
end
def finB (A : List Arr) : Nat → Int
  | 0 => 0
  | i + 1 => (if finB A i < (gA A i).t then (gA A i).t else finB A i) + (gA A i).e
def startB (A : List Arr) (i : Nat) : Int := if finB A i < (gA A i).t then (gA A i).t else finB A i
structure ShI (A : List Arr) (s : Sv) (row : List Int) (t : Nat) : Prop where
  fin : ∀ i, i < s.at_ → gI row i = finB A (i + 1)
  prev : finB A s.at_ ≤ t
  now : s.at_ < A.length → (s.done = 0 ∧ t ≤ startB A s.at_) ∨ (0 < s.done ∧ startB A s.at_ + s.done = t)
section
variable {x : Srv} {A : List Arr}
end
end Go.Ds
