import Derived.Test.YtnlciginmeebhaaM41
namespace Go.Ds
theorem gR_set {R : List (List Int)} {k : Nat} (h : k < R.length) (v : List Int) (i : Nat) : gR (R.set k v) i = if k = i then v else gR R i := by
  unfold gR
  simp only [List.getD_eq_getElem?_getD, List.getElem?_set]
  by_cases e : k = i
  · subst e; simp [h]
  · simp [e]
theorem comes_eq (x : Srv) (now : Int) (s : Sv) : (comes x now s).at_ = s.at_ ∧ (comes x now s).done = s.done ∧ (comes x now s).came = s.came + 1 := by
  unfold comes; split <;> exact ⟨rfl, rfl, rfl⟩
theorem admitN_eq (x : Srv) (A : List Arr) (now : Int) : ∀ (n : Nat) (s : Sv), (admitN x A now n s).at_ = s.at_ ∧ (admitN x A now n s).done = s.done ∧ s.came ≤ (admitN x A now n s).came
  | 0, s => ⟨rfl, rfl, Nat.le_refl _⟩
  | n + 1, s => by
    unfold admitN
    split
    · have h1 := admitN_eq x A now n (comes x now s)
      have h2 := comes_eq x now s
      rw [h2.1, h2.2.1, h2.2.2] at h1
      exact ⟨h1.1, h1.2.1, by omega⟩
    · exact ⟨rfl, rfl, Nat.le_refl _⟩
theorem admit_at (x : Srv) (A : List Arr) (now : Int) (s : Sv) : (admS x A now s).at_ = s.at_ ∧ (admS x A now s).done = s.done := ⟨(admitN_eq x A now _ s).1, (admitN_eq x A now _ s).2.1⟩
def CameP (A : List Arr) (t : Int) (s : Sv) : Prop := s.came ≤ A.length ∧ (∀ i, i < s.came → (gA A i).t < t) ∧ (s.came < A.length → t ≤ (gA A s.came).t)
theorem gA_mono {A : List Arr} (hA : arrLegal A) {i : Nat} : ∀ {j : Nat}, i ≤ j → j < A.length → (gA A i).t ≤ (gA A j).t
  | 0, h, _ => by rw [show i = 0 by omega]; exact Int.le_refl _
  | j + 1, h, hj => by
    by_cases e : i = j + 1
    · rw [e]; exact Int.le_refl _
    · have ih := gA_mono hA (show i ≤ j by omega) (by omega)
      have h2 := (hA.2 (j + 1) hj).2.2 (by omega)
      rw [gA_mem hj]
      rw [gA_mem (show j < A.length by omega)] at ih
      simp only [Nat.add_sub_cancel] at h2
      omega
theorem came_N {x : Srv} {A : List Arr} (hA : arrLegal A) {now : Int} : ∀ (n : Nat) (s : Sv), A.length - s.came ≤ n → s.came ≤ A.length → (∀ i, i < s.came → (gA A i).t ≤ now) → (s.came < A.length → now ≤ (gA A s.came).t) → CameP A (now + 1) (admitN x A now n s)
  | 0, s, hn, h1, h2, h3 => by
    refine ⟨h1, fun i hi => ?_, fun h => ?_⟩
    · have := h2 i hi; omega
    · change s.came < A.length at h; omega
  | n + 1, s, hn, h1, h2, h3 => by
    unfold admitN
    split
    · rename_i hc
      have h4 := comes_eq x now s
      refine came_N hA n (comes x now s) (by rw [h4.2.2]; omega) (by rw [h4.2.2]; omega) (fun i hi => ?_) (fun h => ?_)
      · rw [h4.2.2] at hi
        by_cases e : i = s.came
        · rw [e, hc.2]; exact Int.le_refl _
        · exact h2 i (by omega)
      · rw [h4.2.2] at h ⊢
        have := gA_mono hA (show s.came ≤ s.came + 1 by omega) h
        omega
    · rename_i hc
      refine ⟨h1, fun i hi => ?_, fun h => ?_⟩
      · have := h2 i hi; omega
      · have h5 := h3 h
        have h6 : (gA A s.came).t ≠ now := fun g => hc ⟨h, g⟩
        omega
theorem came_admit {x : Srv} {A : List Arr} (hA : arrLegal A) {now : Int} {s : Sv} (h : CameP A now s) : CameP A (now + 1) (admS x A now s) :=
  came_N hA _ s (Nat.le_refl _) h.1 (fun i hi => by have := h.2.1 i hi; omega) h.2.2
def arrsOk (X : List Srv) (AA : List (List Arr)) : Prop := AA.length = X.length ∧ ∀ A ∈ AA, arrLegal A
theorem arrsOk.at {X : List Srv} {AA : List (List Arr)} (h : arrsOk X AA) {k : Nat} (hk : k < X.length) : arrLegal (gAA AA k) := by
  have hk' : k < AA.length := by have := h.1; omega
  rw [show gAA AA k = AA[k] by simp [gAA, List.getD_eq_getElem?_getD, hk']]
  exact h.2 _ (List.getElem_mem hk')
section
variable {X : List Srv} {AA : List (List Arr)} {L : List Job}
theorem came_T (hA : arrsOk X AA) {k : Nat} (hk : k < X.length) : ∀ t : Nat, CameP (gAA AA k) t (svT X AA L t k)
  | 0 => by
    rw [sv_zero hk]
    refine ⟨Nat.zero_le _, fun i hi => absurd hi (Nat.not_lt_zero i), fun h => ?_⟩
    have := (gA_ok (hA.at hk) h).1.1
    exact this
  | t + 1 => by
    have ih := came_admit (x := gS X k) (hA.at hk) (came_T hA hk t)
    rw [sv_step hk]
    split
    · exact ih
    · exact ih
theorem ss_len (hA : AA.length = X.length) : ∀ t : Nat, (srvS X AA L t).st.sd.length = X.length ∧ (srvS X AA L t).st.ch.length = 120 ∧ ∀ k, k < X.length → (gR (srvS X AA L t).st.sd k).length = (gAA AA k).length
  | 0 => by
    refine ⟨by simp [srvS, sim, ss0, hA], by simp [srvS, sim, ss0], fun k hk => ?_⟩
    have hk' : k < AA.length := by omega
    simp [srvS, sim, ss0, gR, gAA, List.getD_eq_getElem?_getD, hk']
  | t + 1 => by
    have ih := ss_len hA t
    rcases goT_spec (X := X) (AA := AA) (L := L) t with e | ⟨c, e, _, hc, _⟩
    · rw [(st_neg e).1]; exact ih
    · rw [(st_pos e).1]
      refine ⟨?_, ?_, fun k hk => ?_⟩
      · simp only
        split
        · rw [List.length_set]; exact ih.1
        · exact ih.1
      · simp only; rw [List.length_set]; exact ih.2.1
      · simp only
        split
        · rw [gR_set (by rw [ih.1]; exact hc)]
          split
          · rename_i e2; subst e2; rw [List.length_set]; exact ih.2.2 _ hk
          · exact ih.2.2 k hk
        · exact ih.2.2 k hk
theorem sd_step (hA : AA.length = X.length) {t k : Nat} (hk : k < X.length) : gR (srvS X AA L (t + 1)).st.sd k = if goT X AA L t = k ∧ ends (gAA AA k) (gV (wT X AA L t) k) = true then (gR (srvS X AA L t).st.sd k).set (gV (wT X AA L t) k).at_ (t + 1) else gR (srvS X AA L t).st.sd k := by
  have hl := ss_len (L := L) hA t
  rcases goT_spec (X := X) (AA := AA) (L := L) t with e | ⟨c, e, _, hc, _⟩
  · rw [(st_neg e).1, if_neg (fun g => by have := g.1; omega)]
  · rw [(st_pos e).1]
    simp only
    by_cases h : c = k
    · subst h
      by_cases he : ends (gAA AA c) (gV (wT X AA L t) c) = true
      · rw [if_pos he, gR_set (by rw [hl.1]; exact hc), if_pos rfl, if_pos ⟨e, he⟩]
      · rw [if_neg he, if_neg (fun g => he g.2)]
    · by_cases he : ends (gAA AA c) (gV (wT X AA L t) c) = true
      · rw [if_pos he, gR_set (by rw [hl.1]; exact hc), if_neg h, if_neg (fun g => h (by have := g.1; omega))]
      · rw [if_neg he, if_neg (fun g => h (by have := g.1; omega))]
theorem ch_at (hA : AA.length = X.length) : ∀ (t u : Nat), t ≤ 120 → u < 120 → gI (srvS X AA L t).st.ch u = if u < t then goT X AA L u else -1
  | 0, u, _, hu => by
    rw [if_neg (Nat.not_lt_zero u)]
    exact gI_rep _ _ _ hu
  | t + 1, u, ht, hu => by
    have ih := ch_at hA t u (by omega) hu
    have hl := (ss_len (L := L) hA t).2.1
    rcases goT_spec (X := X) (AA := AA) (L := L) t with e | ⟨c, e, _⟩
    · rw [(st_neg e).1]
      simp only
      rw [ih]
      by_cases h : u = t
      · subst h; rw [if_neg (by omega), if_pos (by omega), e]
      · by_cases h2 : u < t
        · rw [if_pos h2, if_pos (by omega)]
        · rw [if_neg h2, if_neg (by omega)]
    · rw [(st_pos e).1]
      simp only
      rw [gI_set (by omega)]
      by_cases h : t = u
      · subst h; rw [if_pos rfl, if_pos (by omega), e]
      · rw [if_neg h, ih]
        by_cases h2 : u < t
        · rw [if_pos h2, if_pos (by omega)]
        · rw [if_neg h2, if_neg (by omega)]
def sumE (A : List Arr) (m : Nat) : Int := sumI (fun q => (gA A q).e) m
def cntS (X : List Srv) (AA : List (List Arr)) (L : List Job) (k : Nat) (t : Nat) : Int := sumI (fun i => if goT X AA L i = (k : Int) then 1 else 0) t
structure OrdI (A : List Arr) (s : Sv) (row : List Int) (cnt : Int) (t : Nat) : Prop where
  before : ∀ i, i < s.at_ → (1 ≤ gI row i ∧ gI row i ≤ t) ∧ (gA A i).t + (gA A i).e ≤ gI row i
  after : ∀ i, i < A.length → s.at_ ≤ i → gI row i = -1
  asc : ∀ i, 0 < i → i < s.at_ → gI row (i - 1 : Nat) < gI row i
  cnt : cnt = sumE A s.at_ + s.done
  busy : 0 < s.done → s.at_ < s.came ∧ (gA A s.at_).t + s.done ≤ t
theorem ord_inv (hX : srvOk X) (hA : arrsOk X AA) {k : Nat} (hk : k < X.length) : ∀ t : Nat, OrdI (gAA AA k) (svT X AA L t k) (gR (srvS X AA L t).st.sd k) (cntS X AA L k t) t
  | 0 => by
    rw [sv_zero hk]
    refine ⟨fun i hi => absurd hi (Nat.not_lt_zero i), fun i hi _ => ?_, fun i _ hi => absurd hi (Nat.not_lt_zero i), rfl, fun h => absurd h (by simp [sv0])⟩
    have hk' : k < AA.length := by have := hA.1; omega
    have e : gR (srvS X AA L 0).st.sd k = List.replicate (gAA AA k).length (-1) := by
      simp [srvS, sim, ss0, gR, gAA, List.getD_eq_getElem?_getD, hk']
    rw [e]; exact gI_rep _ _ _ hi
  | t + 1 => by
    have ih := ord_inv hX hA hk t
    have hs := sv_ok (L := L) (AA := AA) hX hk t
    have hx := gS_ok hX hk
    have hcm := came_admit (x := gS X k) (hA.at hk) (came_T (L := L) hA hk t)
    have hw := hs.admS hx (now := (t : Int)) (by omega)
    have hwt := wT_get (AA := AA) (L := L) (t := t) hk
    have hae := admit_at (gS X k) (gAA AA k) t (svT X AA L t k)
    have hcame := (admitN_eq (gS X k) (gAA AA k) t ((gAA AA k).length - (svT X AA L t k).came) (svT X AA L t k)).2.2
    change (svT X AA L t k).came ≤ (admS (gS X k) (gAA AA k) t (svT X AA L t k)).came at hcame
    have e0 : cntS X AA L k (t + 1) = cntS X AA L k t + if goT X AA L t = (k : Int) then 1 else 0 := rfl
    have hrl := (ss_len (L := L) hA.1 t).2.2 k hk
    rw [sv_step hk, sd_step hA.1 hk, e0, hwt]
    generalize hwv : admS (gS X k) (gAA AA k) (t : Int) (svT X AA L t k) = w at *
    obtain ⟨i1, i2, i3, i4, i5⟩ := ih
    rw [← hae.1] at i1 i2 i3 i4 i5
    rw [← hae.2] at i4 i5
    by_cases hg : goT X AA L t = (k : Int)
    · have hpk : pend w = true := by
        rcases goT_spec (X := X) (AA := AA) (L := L) t with e | ⟨c, e, _, _, hp, _⟩
        · omega
        · obtain rfl : c = k := by omega
          rw [hwt] at hp; exact hp
      have hpk := of_decide_eq_true hpk
      have hlt : w.at_ < (gAA AA k).length := by have := hw.cl; omega
      have he := gA_ok (hA.at hk) hlt
      have hd0 := hw.d0
      have hstart : (gA (gAA AA k) w.at_).t + w.done ≤ t := by
        rcases hw.d1 with h | h
        · have := hcm.2.1 w.at_ hpk; omega
        · rcases Int.lt_or_le 0 w.done with h2 | h2
          · exact (i5 h2).2
          · have := hcm.2.1 w.at_ hpk; omega
      rw [if_pos hg, if_pos hg]
      cases hen : ends (gAA AA k) w
      · rw [if_neg (fun g => by cases g.2)]
        have hen := of_decide_eq_false hen
        have es : serve (gS X k) (gAA AA k) w = ⟨(serve (gS X k) (gAA AA k) w).left, (serve (gS X k) (gAA AA k) w).dl, w.came, w.at_, w.done + 1⟩ := by
          unfold serve ends
          simp only [decide_eq_false hen, Bool.false_eq_true, if_false]
        rw [es]
        refine ⟨fun i hi => ?_, i2, i3, by simp only; omega, fun _ => ⟨hpk, by simp only; omega⟩⟩
        have := i1 i hi; omega
      · rw [if_pos ⟨hg, rfl⟩]
        have hen' := of_decide_eq_true hen
        have es : serve (gS X k) (gAA AA k) w = ⟨(serve (gS X k) (gAA AA k) w).left, (serve (gS X k) (gAA AA k) w).dl, w.came, w.at_ + 1, 0⟩ := by
          unfold serve
          simp only [hen, if_true]
        have hee : (gA (gAA AA k) w.at_).e = w.done + 1 := by
          rcases hw.d1 with h | h <;> omega
        have gs : ∀ i, gI ((gR (srvS X AA L t).st.sd k).set w.at_ ((t : Int) + 1)) (i : Nat) = if w.at_ = i then (t : Int) + 1 else gI (gR (srvS X AA L t).st.sd k) i := fun i => gI_set (by omega) _ i
        rw [es]
        refine ⟨fun i hi => ?_, fun i hi hai => ?_, fun i h0 hi => ?_, ?_, fun h => absurd h (Int.lt_irrefl 0)⟩
        · simp only at hi
          rw [gs]
          split
          · rename_i e; subst e; omega
          · have := i1 i (by omega); omega
        · simp only at hai
          rw [gs, if_neg (by omega)]
          exact i2 i hi (by omega)
        · simp only at hi
          rw [gs, gs, if_neg (by omega)]
          split
          · rename_i e
            have := i1 (i - 1) (by omega); omega
          · exact i3 i h0 (by omega)
        · simp only
          have e1 : sumE (gAA AA k) (w.at_ + 1) = sumE (gAA AA k) w.at_ + (gA (gAA AA k) w.at_).e := rfl
          omega
    · rw [if_neg hg, if_neg hg, if_neg (fun g => hg g.1), Int.add_zero]
      refine ⟨fun i hi => ?_, i2, i3, i4, fun h => ?_⟩
      · have := i1 i hi; omega
      · have h5 := i5 h
        exact ⟨by omega, by omega⟩
theorem sumE_mono {A : List Arr} (hA : arrLegal A) {m : Nat} : ∀ {n : Nat}, m ≤ n → n ≤ A.length → sumE A m ≤ sumE A n
  | 0, h, _ => by rw [show m = 0 by omega]; exact Int.le_refl _
  | n + 1, h, hn => by
    by_cases e : m = n + 1
    · rw [e]; exact Int.le_refl _
    · have ih := sumE_mono hA (show m ≤ n by omega) (by omega)
      have := (gA_ok hA (show n < A.length by omega)).2.1
      have e1 : sumE A (n + 1) = sumE A n + (gA A n).e := rfl
      omega
theorem ord_ticks (hX : srvOk X) (hA : arrsOk X AA) {k : Nat} (hk : k < X.length) (t : Nat) : sumE (gAA AA k) (svT X AA L t k).at_ ≤ cntS X AA L k t ∧ cntS X AA L k t ≤ sumE (gAA AA k) (gAA AA k).length := by
  have ih := ord_inv (L := L) hX hA hk t
  have hs := sv_ok (L := L) (AA := AA) hX hk t
  have h0 := hs.d0
  have hal : (svT X AA L t k).at_ ≤ (gAA AA k).length := Nat.le_trans hs.ac hs.cl
  rw [ih.cnt]
  refine ⟨by omega, ?_⟩
  rcases Nat.lt_or_eq_of_le hal with h | h
  · have h1 := sumE_mono (hA.at hk) (show (svT X AA L t k).at_ + 1 ≤ _ from h) (Nat.le_refl _)
    have e1 : sumE (gAA AA k) ((svT X AA L t k).at_ + 1) = sumE (gAA AA k) (svT X AA L t k).at_ + (gA (gAA AA k) (svT X AA L t k).at_).e := rfl
    have h2 := (gA_ok (hA.at hk) h).2.1
    rcases hs.d1 with h3 | h3 <;> omega
  · rw [← h]
    rcases hs.d1 with h3 | h3
    · omega
    · have : gA (gAA AA k) (svT X AA L t k).at_ = default := by
        unfold gA
        rw [List.getD_eq_getElem?_getD, List.getElem?_eq_none (by omega)]; rfl
      rw [this] at h3
      change (svT X AA L t k).done < 0 at h3
      omega
end
def finB (A : List Arr) : Nat → Int
  | 0 => 0
  | i + 1 => (if finB A i < (gA A i).t then (gA A i).t else finB A i) + (gA A i).e
def startB (A : List Arr) (i : Nat) : Int := if finB A i < (gA A i).t then (gA A i).t else finB A i
structure ShI (A : List Arr) (s : Sv) (row : List Int) (t : Nat) : Prop where
  fin : ∀ i, i < s.at_ → gI row i = finB A (i + 1)
  prev : finB A s.at_ ≤ t
  now : s.at_ < A.length → (s.done = 0 ∧ t ≤ startB A s.at_) ∨ (0 < s.done ∧ startB A s.at_ + s.done = t)
section
variable {x : Srv} {A : List Arr}
end
end Go.Ds
