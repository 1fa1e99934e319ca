import Derived.Test.YtnlciginmeebhaaM41
namespace Go.Ds
theorem gR_set {R : List (List Int)} {k : Nat} (h : k < R.length) (v : List Int) (i : Nat) : gR (R.set k v) i = if k = i then v else gR R i := by
  unfold gR
  simp only [List.getD_eq_getElem?_getD, List.getElem?_set]
  by_cases e : k = i
  · subst e; simp [h]
  · simp [e]
theorem comes_eq (x : Srv) (now : Int) (s : Sv) : (comes x now s).at_ = s.at_ ∧ (comes x now s).done = s.done ∧ (comes x now s).came = s.came + 1 := by
  unfold comes; split <;> exact ⟨rfl, rfl, rfl⟩
theorem admitN_eq (x : Srv) (A : List Arr) (now : Int) : ∀ (n : Nat) (s : Sv), (admitN x A now n s).at_ = s.at_ ∧ (admitN x A now n s).done = s.done ∧ s.came ≤ (admitN x A now n s).came
  | 0, s => ⟨rfl, rfl, Nat.le_refl _⟩
  | n + 1, s => by
    unfold admitN
    split
    · have h1 := admitN_eq x A now n (comes x now s)
      have h2 := comes_eq x now s
      rw [h2.1, h2.2.1, h2.2.2] at h1
      exact ⟨h1.1, h1.2.1, by omega⟩
    · exact ⟨rfl, rfl, Nat.le_refl _⟩
theorem admit_at (x : Srv) (A : List Arr) (now : Int) (s : Sv) : (admS x A now s).at_ = s.at_ ∧ (admS x A now s).done = s.done := ⟨(admitN_eq x A now _ s).1, (admitN_eq x A now _ s).2.1⟩
def CameP (A : List Arr) (t : Int) (s : Sv) : Prop := s.came ≤ A.length ∧ (∀ i, i < s.came → (gA A i).t < t) ∧ (s.came < A.length → t ≤ (gA A s.came).t)
theorem gA_mono {A : List Arr} (hA : arrLegal A) {i : Nat} : ∀ {j : Nat}, i ≤ j → j < A.length → (gA A i).t ≤ (gA A j).t
  | 0, h, _ => by rw [show i = 0 by omega]; exact Int.le_refl _
  | j + 1, h, hj => by
    by_cases e : i = j + 1
    · rw [e]; exact Int.le_refl _
    · have ih := gA_mono hA (show i ≤ j by omega) (by omega)
      have h2 := (hA.2 (j + 1) hj).2.2 (by omega)
      rw [gA_mem hj]
      rw [gA_mem (show j < A.length by omega)] at ih
      simp only [Nat.add_sub_cancel] at h2
      omega
theorem came_N {x : Srv} {A : List Arr} (hA : arrLegal A) {now : Int} : ∀ (n : Nat) (s : Sv), A.length - s.came ≤ n → s.came ≤ A.length → (∀ i, i < s.came → (gA A i).t ≤ now) → (s.came < A.length → now ≤ (gA A s.came).t) → CameP A (now + 1) (admitN x A now n s)
  | 0, s, hn, h1, h2, h3 => by
    refine ⟨h1, fun i hi => ?_, fun h => ?_⟩
    · have := h2 i hi; omega
    · change s.came < A.length at h; omega
  | n + 1, s, hn, h1, h2, h3 => by
    unfold admitN
    split
    · rename_i hc
      have h4 := comes_eq x now s
      refine came_N hA n (comes x now s) (by rw [h4.2.2]; omega) (by rw [h4.2.2]; omega) (fun i hi => ?_) (fun h => ?_)
      · rw [h4.2.2] at hi
        by_cases e : i = s.came
        · rw [e, hc.2]; exact Int.le_refl _
        · exact h2 i (by omega)
      · rw [h4.2.2] at h ⊢
        have := gA_mono hA (show s.came ≤ s.came + 1 by omega) h
        omega
    · rename_i hc
      refine ⟨h1, fun i hi => ?_, fun h => ?_⟩
      · have := h2 i hi; omega
      · have h5 := h3 h
        have h6 : (gA A s.came).t ≠ now := fun g => hc ⟨h, g⟩
        omega
theorem came_admit {x : Srv} {A : List Arr} (hA : arrLegal A) {now : Int} {s : Sv} (h : CameP A now s) : CameP A (now + 1) (admS x A now s) :=
  came_N hA _ s (Nat.le_refl _) h.1 (fun i hi => by have := h.2.1 i hi; omega) h.2.2
def arrsOk (X : List Srv) (AA : List (List Arr)) : Prop := AA.length = X.length ∧ ∀ A ∈ AA, arrLegal A
theorem arrsOk.at {X : List Srv} {AA : List (List Arr)} (h : arrsOk X AA) {k : Nat} (hk : k < X.length) : arrLegal (gAA AA k) := by
  have hk' : k < AA.length := by have := h.1; omega
  rw [show gAA AA k = AA[k] by simp [gAA, List.getD_eq_getElem?_getD, hk']]
  exact h.2 _ (List.getElem_mem hk')
section
variable {X : List Srv} {AA : List (List Arr)} {L : List Job}
theorem came_T (hA : arrsOk X AA) {k : Nat} (hk : k < X.length) : ∀ t : Nat, CameP (gAA AA k) t (svT X AA L t k)
  | 0 => by
    rw [sv_zero hk]
    refine ⟨Nat.zero_le _, fun i hi => absurd hi (Nat.not_lt_zero i), fun h => ?_⟩
    have := (gA_ok (hA.at hk) h).1.1
    exact this
  | t + 1 => by
    have ih := came_admit (x := gS X k) (hA.at hk) (came_T hA hk t)
    rw [sv_step hk]
    split
    · exact ih
    · exact ih
theorem ss_len (hA : AA.length = X.length) : ∀ t : Nat, (srvS X AA L t).st.sd.length = X.length ∧ (srvS X AA L t).st.ch.length = 120 ∧ ∀ k, k < X.length → (gR (srvS X AA L t).st.sd k).length = (gAA AA k).length
  | 0 => by
    refine ⟨by simp [srvS, sim, ss0, hA], by simp [srvS, sim, ss0], fun k hk => ?_⟩
    have hk' : k < AA.length := by omega
    simp [srvS, sim, ss0, gR, gAA, List.getD_eq_getElem?_getD, hk']
  | t + 1 => by
    have ih := ss_len hA t
    rcases goT_spec (X := X) (AA := AA) (L := L) t with e | ⟨c, e, _, hc, _⟩
    · rw [(st_neg e).1]; exact ih
    · rw [(st_pos e).1]
      refine ⟨?_, ?_, fun k hk => ?_⟩
      · simp only
        split
        · rw [List.length_set]; exact ih.1
        · exact ih.1
      · simp only; rw [List.length_set]; exact ih.2.1
      · simp only
        split
        · rw [gR_set (by rw [ih.1]; exact hc)]
          split
          · rename_i e2; subst e2; rw [List.length_set]; exact ih.2.2 _ hk
          · exact ih.2.2 k hk
        · exact ih.2.2 k hk
theorem sd_step (hA : AA.length = X.length) {t k : Nat} (hk : k < X.length) : gR (srvS X AA L (t + 1)).st.sd k = if goT X AA L t = k ∧ ends (gAA AA k) (gV (wT X AA L t) k) = true then (gR (srvS X AA L t).st.sd k).set (gV (wT X AA L t) k).at_ (t + 1) else gR (srvS X AA L t).st.sd k := by
  have hl := ss_len (L := L) hA t
  rcases goT_spec (X := X) (AA := AA) (L := L) t with e | ⟨c, e, _, hc, _⟩
  · rw [(st_neg e).1, if_neg (fun g => by have := g.1; omega)]
  · rw [(st_pos e).1]
    simp only
    by_cases h : c = k
    · subst h
      by_cases he : ends (gAA AA c) (gV (wT X AA L t) c) = true
      · rw [if_pos he, gR_set (by rw [hl.1]; exact hc), if_pos rfl, if_pos ⟨e, he⟩]
      · rw [if_neg he, if_neg (fun g => he g.2)]
    · by_cases he : ends (gAA AA c) (gV (wT X AA L t) c) = true
      · rw [if_pos he, gR_set (by rw [hl.1]; exact hc), if_neg h, if_neg (fun g => h (by have := g.1; omega))]
      · rw [if_neg he, if_neg (fun g => h (by have := g.1; omega))]
def sumE (A : List Arr) (m : Nat) : Int := sumI (fun q => (gA A q).e) m
def cntS (X : List Srv) (AA : List (List Arr)) (L : List Job) (k : Nat) (t : Nat) : Int := sumI (fun i => if goT X AA L i = (k : Int) then 1 else 0) t
structure OrdI (A : List Arr) (s : Sv) (row : List Int) (cnt : Int) (t : Nat) : Prop where
  before : ∀ i, i < s.at_ → (1 ≤ gI row i ∧ gI row i ≤ t) ∧ (gA A i).t + (gA A i).e ≤ gI row i
  after : ∀ i, i < A.length → s.at_ ≤ i → gI row i = -1
  asc : ∀ i, 0 < i → i < s.at_ → gI row (i - 1 : Nat) < gI row i
  cnt : cnt = sumE A s.at_ + s.done
  busy : 0 < s.done → s.at_ < s.came ∧ (gA A s.at_).t + s.done ≤ t
theorem ord_inv (hX : srvOk X) (hA : arrsOk X AA) {k : Nat} (hk : k < X.length) : ∀ t : Nat, OrdI (gAA AA k) (svT X AA L t k) (gR (srvS X AA L t).st.sd k) (cntS X AA L k t) t
  | 0 => by
    rw [sv_zero hk]
    refine ⟨fun i hi => absurd hi (Nat.not_lt_zero i), fun i hi _ => ?_, fun i _ hi => absurd hi (Nat.not_lt_zero i), rfl, fun h => absurd h (by simp [sv0])⟩
    have hk' : k < AA.length := by have := hA.1; omega
    have e : gR (srvS X AA L 0).st.sd k = List.replicate (gAA AA k).length (-1) := by
      simp [srvS, sim, ss0, gR, gAA, List.getD_eq_getElem?_getD, hk']
    rw [e]; exact gI_rep _ _ _ hi
  | t + 1 => by
    have ih := ord_inv hX hA hk t
    have hs := sv_ok (L := L) (AA := AA) hX hk t
    have hx := gS_ok hX hk
    have hcm := came_admit (x := gS X k) (hA.at hk) (came_T (L := L) hA hk t)
    have hw := hs.admS hx (now := (t : Int)) (by omega)
    have hwt := wT_get (AA := AA) (L := L) (t := t) hk
    have hae := admit_at (gS X k) (gAA AA k) t (svT X AA L t k)
    have hcame := (admitN_eq (gS X k) (gAA AA k) t ((gAA AA k).length - (svT X AA L t k).came) (svT X AA L t k)).2.2
    change (svT X AA L t k).came ≤ (admS (gS X k) (gAA AA k) t (svT X AA L t k)).came at hcame
    have e0 : cntS X AA L k (t + 1) = cntS X AA L k t + if goT X AA L t = (k : Int) then 1 else 0 := rfl
    have hrl := (ss_len (L := L) hA.1 t).2.2 k hk
    rw [sv_step hk, sd_step hA.1 hk, e0, hwt]
    generalize hwv : admS (gS X k) (gAA AA k) (t : Int) (svT X AA L t k) = w at *
    obtain ⟨i1, i2, i3, i4, i5⟩ := ih
    rw [← hae.1] at i1 i2 i3 i4 i5
    rw [← hae.2] at i4 i5
    by_cases hg : goT X AA L t = (k : Int)
    · have hpk : pend w = true := by
        rcases goT_spec (X := X) (AA := AA) (L := L) t with e | ⟨c, e, _, _, hp, _⟩
        · omega
        · obtain rfl : c = k := by omega
          rw [hwt] at hp; exact hp
      have hpk := of_decide_eq_true hpk
      have hlt : w.at_ < (gAA AA k).length := by have := hw.cl; omega
      have he := gA_ok (hA.at hk) hlt
      have hd0 := hw.d0
      have hstart : (gA (gAA AA k) w.at_).t + w.done ≤ t := by
        rcases hw.d1 with h | h
        · have := hcm.2.1 w.at_ hpk; omega
        · rcases Int.lt_or_le 0 w.done with h2 | h2
          · exact (i5 h2).2
          · have := hcm.2.1 w.at_ hpk; omega
      rw [if_pos hg, if_pos hg]
      cases hen : ends (gAA AA k) w
      · rw [if_neg (fun g => by cases g.2)]
        have hen := of_decide_eq_false hen
        have es : serve (gS X k) (gAA AA k) w = ⟨(serve (gS X k) (gAA AA k) w).left, (serve (gS X k) (gAA AA k) w).dl, w.came, w.at_, w.done + 1⟩ := by
          unfold serve ends
          simp only [decide_eq_false hen, Bool.false_eq_true, if_false]
        rw [es]
        refine ⟨fun i hi => ?_, i2, i3, by simp only; omega, fun _ => ⟨hpk, by simp only; omega⟩⟩
        have := i1 i hi; omega
      · rw [if_pos ⟨hg, rfl⟩]
        have hen' := of_decide_eq_true hen
        have es : serve (gS X k) (gAA AA k) w = ⟨(serve (gS X k) (gAA AA k) w).left, (serve (gS X k) (gAA AA k) w).dl, w.came, w.at_ + 1, 0⟩ := by
          unfold serve
          simp only [hen, if_true]
        have hee : (gA (gAA AA k) w.at_).e = w.done + 1 := by
          rcases hw.d1 with h | h <;> omega
        have gs : ∀ i, gI ((gR (srvS X AA L t).st.sd k).set w.at_ ((t : Int) + 1)) (i : Nat) = if w.at_ = i then (t : Int) + 1 else gI (gR (srvS X AA L t).st.sd k) i := fun i => gI_set (by omega) _ i
        rw [es]
        refine ⟨fun i hi => ?_, fun i hi hai => ?_, fun i h0 hi => ?_, ?_, fun h => absurd h (Int.lt_irrefl 0)⟩
        · simp only at hi
          rw [gs]
          split
          · rename_i e; subst e; omega
          · have := i1 i (by omega); omega
        · simp only at hai
          rw [gs, if_neg (by omega)]
          exact i2 i hi (by omega)
        · simp only at hi
          rw [gs, gs, if_neg (by omega)]
          split
          · rename_i e
            have := i1 (i - 1) (by omega); omega
          · exact i3 i h0 (by omega)
        · simp only
          have e1 : sumE (gAA AA k) (w.at_ + 1) = sumE (gAA AA k) w.at_ + (gA (gAA AA k) w.at_).e := rfl
          omega
    · rw [if_neg hg, if_neg hg, if_neg (fun g => hg g.1), Int.add_zero]
      refine ⟨fun i hi => ?_, i2, i3, i4, fun h => ?_⟩
      · have := i1 i hi; omega
      · have h5 := i5 h
        exact ⟨by omega, by omega⟩
end
def finB (A : List Arr) : Nat → Int
  | 0 => 0
  | i + 1 => (if finB A i < (gA A i).t then (gA A i).t else finB A i) + (gA A i).e
def startB (A : List Arr) (i : Nat) : Int := if finB A i < (gA A i).t then (gA A i).t else finB A i
structure ShI (A : List Arr) (s : Sv) (row : List Int) (t : Nat) : Prop where
  fin : ∀ i, i < s.at_ → gI row i = finB A (i + 1)
  prev : finB A s.at_ ≤ t
  now : s.at_ < A.length → (s.done = 0 ∧ t ≤ startB A s.at_) ∨ (0 < s.done ∧ startB A s.at_ + s.done = t)
section
variable {x : Srv} {A : List Arr}
theorem edf_empty (t : Nat) (done : List Int) : edfPick [] t done = -1 := rfl
theorem share_inv (hx : x.ok) (hA : arrLegal A) : ∀ t : Nat, ShI A (svT [x] [A] [] t 0) (gR (srvS [x] [A] [] t).st.sd 0) t
  | 0 => by
    rw [sv_zero (by simp)]
    refine ⟨fun i hi => absurd hi (Nat.not_lt_zero i), Int.le_refl _, fun h => .inl ⟨rfl, ?_⟩⟩
    have := (gA_ok hA h).1.1
    show ((0 : Nat) : Int) ≤ if finB A 0 < (gA A 0).t then (gA A 0).t else finB A 0
    have e : finB A 0 = 0 := rfl
    rw [e]; split <;> omega
  | t + 1 => by
    have ih := share_inv hx hA t
    have hX : srvOk [x] := ⟨by simp, by simp [hx]⟩
    have hAA : arrsOk [x] [A] := ⟨rfl, by simp [hA]⟩
    have hk : 0 < [x].length := by simp
    have hgA : gAA [A] 0 = A := rfl
    have hs := sv_ok (L := []) (AA := [A]) hX hk t
    have hxx := gS_ok hX hk
    have hcm := came_admit (x := gS [x] 0) (hAA.at hk) (came_T (L := []) hAA hk t)
    have hord := ord_inv (L := []) hX hAA hk t
    have hw := hs.admS hxx (now := (t : Int)) (by omega)
    have hwt := wT_get (AA := [A]) (L := []) (t := t) hk
    have hae := admit_at (gS [x] 0) (gAA [A] 0) t (svT [x] [A] [] t 0)
    have hrl := (ss_len (X := [x]) (AA := [A]) (L := []) rfl t).2.2 0 hk
    have hbz := hord.busy
    have hgo : goT [x] [A] [] t = (0 : Nat) ↔ pend (gV (wT [x] [A] [] t) 0) = true := by
      have e3 : goT [x] [A] [] t = srvGo 1 [] (wT [x] [A] [] t) t (srvS [x] [A] [] t).done := rfl
      have e4 : srvGo 1 [] (wT [x] [A] [] t) t (srvS [x] [A] [] t).done = if cand 1 (wT [x] [A] [] t) < 0 then -1 else cand 1 (wT [x] [A] [] t) := by
        unfold srvGo
        rw [edf_empty]
        simp
      rw [e3, e4]
      rcases cand_spec 1 (wT [x] [A] [] t) with ⟨e, h⟩ | ⟨c, e, hc, hp, _⟩
      · rw [e, if_pos (by decide), h 0 (by omega)]; simp
      · obtain rfl : c = 0 := by omega
        rw [e, if_neg (by decide), hp]; simp
    rw [sv_step hk, sd_step rfl hk, hwt]
    rw [hwt] at hgo
    rw [hgA] at *
    generalize hwv : admS (gS [x] 0) A (t : Int) (svT [x] [A] [] t 0) = w at *
    obtain ⟨i1, i2, i3⟩ := ih
    rw [← hae.1] at i1 i2 i3 hbz
    rw [← hae.2] at i3 hbz
    have hcame := (admitN_eq (gS [x] 0) A t (A.length - (svT [x] [A] [] t 0).came) (svT [x] [A] [] t 0)).2.2
    change (svT [x] [A] [] t 0).came ≤ (admS (gS [x] 0) A t (svT [x] [A] [] t 0)).came at hcame
    rw [hwv] at hcame
    have hd0 := hw.d0
    cases hpk : pend w
    · have hg : ¬ goT [x] [A] [] t = (0 : Nat) := fun g => by rw [hgo.1 g] at hpk; cases hpk
      have hpk := of_decide_eq_false hpk
      rw [if_neg hg, if_neg (fun g => hg g.1)]
      refine ⟨i1, by omega, fun h => .inl ?_⟩
      have hle := hw.ac
      have hcl : w.came < A.length := by omega
      have h2 := hcm.2.2 hcl
      have h3 : w.came = w.at_ := by omega
      rw [h3] at h2
      rcases i3 h with ⟨h4, h5⟩ | ⟨h4, h5⟩
      · refine ⟨h4, ?_⟩
        unfold startB at h5 ⊢
        split <;> omega
      · have := (hbz h4).1; omega
    · have hg := hgo.2 hpk
      have hpk' := of_decide_eq_true hpk
      have hlt : w.at_ < A.length := by have := hw.cl; omega
      have he := gA_ok hA hlt
      have hat := hcm.2.1 w.at_ hpk'
      have hst : startB A w.at_ + w.done = t := by
        rcases i3 hlt with ⟨h4, h5⟩ | ⟨_, h5⟩
        · unfold startB at h5 ⊢
          split at h5
          · rename_i h6; rw [if_pos h6]; omega
          · rename_i h6; rw [if_neg h6]; omega
        · exact h5
      rw [if_pos hg]
      cases hen : ends A w
      · rw [if_neg (fun g => by cases g.2)]
        have hen' := of_decide_eq_false hen
        have es : serve (gS [x] 0) A w = ⟨(serve (gS [x] 0) A w).left, (serve (gS [x] 0) A w).dl, w.came, w.at_, w.done + 1⟩ := by
          unfold serve
          simp only [hen, Bool.false_eq_true, if_false]
        rw [es]
        exact ⟨i1, by simp only; omega, fun _ => .inr ⟨by simp only; omega, by simp only; omega⟩⟩
      · rw [if_pos ⟨hg, rfl⟩]
        have hen' := of_decide_eq_true hen
        have es : serve (gS [x] 0) A w = ⟨(serve (gS [x] 0) A w).left, (serve (gS [x] 0) A w).dl, w.came, w.at_ + 1, 0⟩ := by
          unfold serve
          simp only [hen, if_true]
        have hee : (gA A w.at_).e = w.done + 1 := by
          rcases hw.d1 with h | h <;> omega
        have hfin : finB A (w.at_ + 1) = t + 1 := by
          have : finB A (w.at_ + 1) = startB A w.at_ + (gA A w.at_).e := rfl
          omega
        rw [es]
        refine ⟨fun i hi => ?_, by simp only; omega, fun h => .inl ⟨rfl, ?_⟩⟩
        · simp only at hi
          rw [gI_set (by omega)]
          split
          · rename_i e; subst e; exact hfin.symm
          · exact i1 i (by omega)
        · simp only
          unfold startB
          split <;> omega
theorem finB_mono (hA : arrLegal A) {m : Nat} : ∀ {n : Nat}, m ≤ n → n ≤ A.length → finB A m ≤ finB A n
  | 0, h, _ => by rw [show m = 0 by omega]; exact Int.le_refl _
  | n + 1, h, hn => by
    by_cases e : m = n + 1
    · rw [e]; exact Int.le_refl _
    · have ih := finB_mono hA (show m ≤ n by omega) (by omega)
      have := (gA_ok hA (show n < A.length by omega)).2.1
      have e1 : finB A (n + 1) = (if finB A n < (gA A n).t then (gA A n).t else finB A n) + (gA A n).e := rfl
      rw [e1]
      split <;> omega
theorem share_at (hx : x.ok) (hA : arrLegal A) (t : Nat) {i : Nat} (hi : i < A.length) : gI (gR (srvS [x] [A] [] t).st.sd 0) i = if (t : Int) < finB A (i + 1) then -1 else finB A (i + 1) := by
  have h := share_inv hx hA t
  have hX : srvOk [x] := ⟨by simp, by simp [hx]⟩
  have hAA : arrsOk [x] [A] := ⟨rfl, by simp [hA]⟩
  have hk : 0 < [x].length := by simp
  have hord := ord_inv (L := []) hX hAA hk t
  have hs := (sv_ok (L := []) (AA := [A]) hX hk t).d1
  have hgA : gAA [A] 0 = A := rfl
  rw [hgA] at hord hs
  rcases Nat.lt_or_ge i (svT [x] [A] [] t 0).at_ with h1 | h1
  · rw [h.fin i h1]
    have h2 := (hord.before i h1).1
    rw [h.fin i h1] at h2
    rw [if_neg (by omega)]
  · rw [hord.after i hi h1, if_pos]
    have h2 : (svT [x] [A] [] t 0).at_ < A.length := by omega
    have h3 := finB_mono hA (show (svT [x] [A] [] t 0).at_ + 1 ≤ i + 1 by omega) (by omega)
    have e1 : finB A ((svT [x] [A] [] t 0).at_ + 1) = startB A (svT [x] [A] [] t 0).at_ + (gA A (svT [x] [A] [] t 0).at_).e := rfl
    have h4 := (gA_ok hA h2).2.1
    rcases h.now h2 with ⟨h5, h6⟩ | ⟨h5, h6⟩
    · omega
    · rcases hs with h7 | h7 <;> omega
theorem share_all (hx : x.ok) (hA : arrLegal A) {i : Nat} (hi : i < A.length) : gI (gR (srvSd [x] [A] []) 0) i = if 120 < finB A (i + 1) then -1 else finB A (i + 1) := by
  have h := share_at hx hA 120 hi
  have e : ((120 : Nat) : Int) = 120 := rfl
  rw [e] at h
  rw [srvSd]
  exact h
end
end Go.Ds
