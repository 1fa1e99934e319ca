import Derived.Test.YtnlciginmeebhaaM40
import Derived.Test.YtnlciginmeebhaaM15
import Derived.Test.YtnlciginmeebhaaM36
namespace Go.Ds
section
variable {L : List Job} {pick : Nat → List Int → Int}
theorem miss_gen {A : Nat → Bool} {d : Nat} (hf : Fair L pick) (hA : Only A pick) (hE : ∀ j ∈ L, 1 ≤ j.E) (hR : ∀ j ∈ L, 0 ≤ j.R)
    (hB : ∀ t, t < d → A t = true → (∃ n : Nat, pick t (simU L pick t).done = n ∧ n < L.length ∧ (L.getD n default).D ≤ d) ∨ ∀ i, i < L.length → (L.getD i default).D ≤ d → readyJ L (simU L pick t).done t i = false)
    {j : Nat} (hj : j < L.length) (hD : (L.getD j default).D ≤ d) (hm : doneAt L pick d j < (L.getD j default).E) :
    ∃ a, a ≤ d ∧ free A a (d - a) < work (within L a d) (fun i => (L.getD i default).E) L.length ∧ (a = 0 ∨ (A (a - 1) = true ∧ a - 1 < d ∧ ¬ ∃ n : Nat, pick (a - 1) (simU L pick (a - 1)).done = n ∧ n < L.length ∧ (L.getD n default).D ≤ d)) := by
  obtain ⟨a, ha, hQ, hmin⟩ := least (Q := fun a => ∀ t, a ≤ t → t < d → A t = true → ∃ n : Nat, pick t (simU L pick t).done = n ∧ n < L.length ∧ (L.getD n default).D ≤ d) d (fun t h1 h2 => by omega)
  have hx : a = 0 ∨ (A (a - 1) = true ∧ a - 1 < d ∧ ¬ ∃ n : Nat, pick (a - 1) (simU L pick (a - 1)).done = n ∧ n < L.length ∧ (L.getD n default).D ≤ d) := by
    rcases hmin with rfl | hmin
    · exact .inl rfl
    · have ha0 : 0 < a := by
        rcases Nat.eq_zero_or_pos a with rfl | h0
        · exact absurd hQ hmin
        · exact h0
      refine .inr ?_
      have hx : A (a - 1) = true ∧ ¬ ∃ n : Nat, pick (a - 1) (simU L pick (a - 1)).done = n ∧ n < L.length ∧ (L.getD n default).D ≤ d := by
        apply Classical.byContradiction
        intro hn
        apply hmin
        intro t h1 h2 h3
        by_cases e : t = a - 1
        · subst e
          apply Classical.byContradiction
          intro h4; exact hn ⟨h3, h4⟩
        · exact hQ t (by omega) h2 h3
      exact ⟨hx.1, by omega, hx.2⟩
  refine ⟨a, ha, ?_, hx⟩
  have past : ∀ i, i < L.length → (L.getD i default).D ≤ d → (L.getD i default).R < a → doneAt L pick a i = (L.getD i default).E := by
    intro i hi hDi hRi
    rcases hx with rfl | ⟨hx1, hx2, hx3⟩
    · have : L.getD i default ∈ L := by
        rw [show L.getD i default = L[i] from by simp [List.getD_eq_getElem?_getD, hi]]
        exact List.getElem_mem hi
      have := hR _ this
      omega
    · have hle : doneAt L pick (a - 1) i ≤ _ := (runInv hf hE (a - 1) i hi).le
      have ha1 : 0 ≤ (L.getD i default).R := by
        have : L.getD i default ∈ L := by
          rw [show L.getD i default = L[i] from by simp [List.getD_eq_getElem?_getD, hi]]
          exact List.getElem_mem hi
        exact hR _ this
      have hfull : doneAt L pick (a - 1) i = (L.getD i default).E := by
        apply Classical.byContradiction
        intro hne
        have hrd : readyJ L (simU L pick (a - 1)).done (a - 1 : Nat) i = true := by
          unfold readyJ
          refine decide_eq_true ⟨by omega, ?_⟩
          change doneAt L pick (a - 1) i < _
          omega
        rcases hB (a - 1) hx2 hx1 with h1 | h1
        · exact hx3 h1
        · rw [h1 i hi hDi] at hrd; cases hrd
      exact done_full hf hE hi (by omega) hfull
  have hP : ∀ t, a ≤ t → t < a + (d - a) → A t = true → ∃ n : Nat, pick t (simU L pick t).done = n ∧ n < L.length ∧ within L a d n = true := by
    intro t h1 h2 h3
    obtain ⟨n, e, hn, hDn⟩ := hQ t h1 (by omega) h3
    refine ⟨n, e, hn, decide_eq_true ⟨?_, hDn⟩⟩
    apply Classical.byContradiction
    intro hlt
    have hfull := done_full hf hE hn h1 (past n hn hDn (by omega))
    rcases hf t (simU L pick t).done with e2 | ⟨m, e2, _, hr⟩
    · omega
    · obtain rfl : m = n := by omega
      simp only [readyJ, decide_eq_true_eq] at hr
      unfold doneAt at hfull
      omega
  have hw := work_eq (L := L) (pick := pick) hA (within L a d) a (d - a) hP
  have h0 : work (within L a d) (doneAt L pick a) L.length = 0 := by
    refine sumI_zero fun i hi => ?_
    split
    · rename_i hwi
      exact done_rel hf hi a (of_decide_eq_true hwi).1
    · rfl
  rw [show a + (d - a) = d by omega] at hw
  have hjP : within L a d j = true := by
    refine decide_eq_true ⟨?_, hD⟩
    apply Classical.byContradiction
    intro hlt
    have := done_full hf hE hj ha (past j hj hD (by omega))
    omega
  have hlt : work (within L a d) (doneAt L pick d) L.length < work (within L a d) (fun i => (L.getD i default).E) L.length := by
    refine sumI_lt (j := j) (fun i hi => ?_) hj ?_
    · split
      · exact (runInv hf hE d i hi).le
      · exact Int.le_refl _
    · simp only; rw [hjP]; simpa using hm
  omega
end
def phi (x : Srv) (d : Int) (s : Sv) : Int := if s.dl ≤ d then x.P * s.left + (d - s.dl) * x.B else 0
theorem phi_nonneg {x : Srv} {A : List Arr} {d : Int} {s : Sv} (hx : x.ok) (h : SvOk x A s) : 0 ≤ phi x d s := by
  have h1 := h.l0
  unfold Srv.ok at hx
  unfold phi
  split
  · have e1 : 0 ≤ x.P * s.left := Int.mul_nonneg (by omega) (by omega)
    have e2 : 0 ≤ (d - s.dl) * x.B := Int.mul_nonneg (by omega) (by omega)
    omega
  · exact Int.le_refl _
theorem phi_comes {x : Srv} {A : List Arr} {d now : Int} {s : Sv} (hx : x.ok) (h : SvOk x A s) (hn : now ≤ d) : phi x d (comes x now s) ≤ phi x d s ∧ (s.came ≤ s.at_ → phi x d (comes x now s) ≤ (d - now) * x.B) := by
  have h0 := phi_nonneg (d := d) hx h
  have h1 := h.l0
  have h2 := h.l1
  unfold Srv.ok at hx
  have hdn : 0 ≤ (d - now) * x.B := Int.mul_nonneg (by omega) (by omega)
  unfold comes
  by_cases hc : s.came ≤ s.at_ ∧ (s.dl - now) * x.B ≤ s.left * x.P
  · rw [if_pos hc]
    have hc2 := hc.2
    have e3 : phi x d ⟨x.B, now + x.P, s.came + 1, s.at_, s.done⟩ = if now + x.P ≤ d then (d - now) * x.B else 0 := by
      unfold phi
      simp only
      split
      · rw [Int.sub_mul, Int.sub_mul, Int.add_mul]; omega
      · rfl
    rw [e3]
    by_cases h4 : now + x.P ≤ d
    · rw [if_pos h4]
      refine ⟨?_, fun _ => Int.le_refl _⟩
      by_cases h5 : s.dl ≤ d
      · have e4 : phi x d s = x.P * s.left + (d - s.dl) * x.B := if_pos h5
        rw [e4, Int.mul_comm x.P s.left]
        rw [Int.sub_mul] at hc2 ⊢
        rw [Int.sub_mul d s.dl]
        omega
      · exfalso
        have e5 : (x.P + 1) * x.B ≤ (s.dl - now) * x.B := Int.mul_le_mul_of_nonneg_right (by omega) (by omega)
        have e6 : s.left * x.P ≤ x.B * x.P := Int.mul_le_mul_of_nonneg_right h2 (by omega)
        rw [Int.add_mul, Int.one_mul, Int.mul_comm x.P x.B] at e5
        omega
    · rw [if_neg h4]
      exact ⟨h0, fun _ => hdn⟩
  · rw [if_neg hc]
    have e3 : phi x d ⟨s.left, s.dl, s.came + 1, s.at_, s.done⟩ = phi x d s := rfl
    rw [e3]
    refine ⟨Int.le_refl _, fun hi => ?_⟩
    have hc2 : ¬ (s.dl - now) * x.B ≤ s.left * x.P := fun g => hc ⟨hi, g⟩
    unfold phi
    split
    · rw [Int.mul_comm x.P s.left]
      rw [Int.sub_mul] at hc2 ⊢
      rw [Int.sub_mul d now]
      omega
    · exact hdn
theorem phi_admitN {x : Srv} {A : List Arr} {d now : Int} (hx : x.ok) (hn0 : 0 ≤ now) (hn : now ≤ d) : ∀ (n : Nat) {s : Sv}, SvOk x A s → phi x d (admitN x A now n s) ≤ phi x d s ∧ (pend s = false → pend (admitN x A now n s) = true → phi x d (admitN x A now n s) ≤ (d - now) * x.B)
  | 0, s, h => ⟨Int.le_refl _, fun h1 h2 => by rw [show admitN x A now 0 s = s from rfl, h1] at h2; cases h2⟩
  | n + 1, s, h => by
    unfold admitN
    split
    · rename_i hc
      have h1 := phi_comes hx h hn
      have h2 := phi_admitN hx hn0 hn n (h.comes hx hn0 hc.1)
      refine ⟨Int.le_trans h2.1 h1.1, fun hp _ => ?_⟩
      have := of_decide_eq_false hp
      exact Int.le_trans h2.1 (h1.2 (by omega))
    · exact ⟨Int.le_refl _, fun h1 h2 => by rw [h1] at h2; cases h2⟩
theorem phi_serve {x : Srv} {A : List Arr} {d : Int} {s : Sv} (hx : x.ok) (h : SvOk x A s) : phi x d (serve x A s) ≤ phi x d s - if s.dl ≤ d then x.P else 0 := by
  have h1 := h.l0
  have h2 := h.l1
  unfold Srv.ok at hx
  unfold serve phi
  simp only
  by_cases hl : s.left - 1 = 0
  · rw [if_pos hl, if_pos hl]
    by_cases h3 : s.dl ≤ d
    · rw [if_pos h3, if_pos h3]
      have e1 : s.left = 1 := by omega
      rw [e1]
      by_cases h4 : s.dl + x.P ≤ d
      · rw [if_pos h4, Int.sub_mul, Int.sub_mul, Int.add_mul]; omega
      · rw [if_neg h4]
        have : 0 ≤ (d - s.dl) * x.B := Int.mul_nonneg (by omega) (by omega)
        omega
    · rw [if_neg h3, if_neg h3, if_neg (by omega)]; omega
  · rw [if_neg hl, if_neg hl]
    by_cases h3 : s.dl ≤ d
    · rw [if_pos h3, if_pos h3, if_pos h3, Int.mul_sub, Int.mul_one]; omega
    · rw [if_neg h3, if_neg h3, if_neg h3]; omega
section
variable {X : List Srv} {AA : List (List Arr)} {L : List Job}
def rkS (X : List Srv) (AA : List (List Arr)) (L : List Job) (d : Int) (a k : Nat) (m : Nat) : Int := sumI (fun i => if goT X AA L (a + i) = (k : Int) ∧ (gV (wT X AA L (a + i)) k).dl ≤ d then 1 else 0) m
theorem wT_get {t k : Nat} (hk : k < X.length) : gV (wT X AA L t) k = admS (gS X k) (gAA AA k) t (svT X AA L t k) := admitAll_get hk
theorem goT_spec (t : Nat) : goT X AA L t = -1 ∨ ∃ c : Nat, goT X AA L t = c ∧ cand X.length (wT X AA L t) = c ∧ c < X.length ∧ pend (gV (wT X AA L t) c) = true ∧ (∀ k, k < X.length → pend (gV (wT X AA L t) k) = true → (gV (wT X AA L t) c).dl ≤ (gV (wT X AA L t) k).dl) ∧ (edfPick L t (srvS X AA L t).done = -1 ∨ (gV (wT X AA L t) c).dl < (L.getD (edfPick L t (srvS X AA L t).done).toNat default).D) :=
  go_spec X.length L (wT X AA L t) t (srvS X AA L t).done
theorem rk_inv (hX : srvOk X) {d a k : Nat} (hk : k < X.length) (had : a ≤ d) (h0 : pend (svT X AA L a k) = false ∨ phi (gS X k) d (svT X AA L a k) = 0) : ∀ m : Nat, a + m ≤ d →
    (rkS X AA L d a k m = 0 ∧ pend (svT X AA L (a + m) k) = false) ∨ (gS X k).P * rkS X AA L d a k m + phi (gS X k) d (svT X AA L (a + m) k) ≤ ((d : Int) - a) * (gS X k).B
  | 0, _ => by
    have hx := gS_ok hX hk
    unfold Srv.ok at hx
    rcases h0 with h0 | h0
    · exact .inl ⟨rfl, h0⟩
    · refine .inr ?_
      rw [Nat.add_zero, h0, show rkS X AA L d a k 0 = 0 from rfl, Int.mul_zero]
      exact Int.mul_nonneg (by omega) (by omega)
  | m + 1, hm => by
    have ih := rk_inv hX hk had h0 m (by omega)
    have hx := gS_ok hX hk
    have hs := sv_ok (L := L) (AA := AA) hX hk (a + m)
    have hw := hs.admS hx (now := ((a + m : Nat) : Int)) (by omega)
    have hph := phi_admitN (d := d) hx (now := ((a + m : Nat) : Int)) (by omega) (by omega) ((gAA AA k).length - (svT X AA L (a + m) k).came) hs
    change phi (gS X k) d (admS (gS X k) (gAA AA k) ((a + m : Nat) : Int) (svT X AA L (a + m) k)) ≤ _ ∧ (_ → pend (admS (gS X k) (gAA AA k) ((a + m : Nat) : Int) (svT X AA L (a + m) k)) = true → phi (gS X k) d (admS (gS X k) (gAA AA k) ((a + m : Nat) : Int) (svT X AA L (a + m) k)) ≤ _) at hph
    have hst := sv_step (AA := AA) (L := L) (t := a + m) hk
    have hwt := wT_get (AA := AA) (L := L) (t := a + m) hk
    have e0 : rkS X AA L d a k (m + 1) = rkS X AA L d a k m + if goT X AA L (a + m) = (k : Int) ∧ (gV (wT X AA L (a + m)) k).dl ≤ d then 1 else 0 := rfl
    rw [e0, ← Nat.add_assoc, hst, hwt]
    generalize hwv : admS (gS X k) (gAA AA k) ((a + m : Nat) : Int) (svT X AA L (a + m) k) = w at *
    -- ahead of the choice
    have hpre : (rkS X AA L d a k m = 0 ∧ pend w = false) ∨ (gS X k).P * rkS X AA L d a k m + phi (gS X k) d w ≤ ((d : Int) - a) * (gS X k).B := by
      rcases ih with ⟨h1, h2⟩ | h1
      · cases hpw : pend w
        · exact .inl ⟨h1, rfl⟩
        · refine .inr ?_
          have h3 := hph.2 h2 hpw
          rw [h1, Int.mul_zero, Int.zero_add]
          refine Int.le_trans h3 (Int.mul_le_mul_of_nonneg_right (by omega) ?_)
          unfold Srv.ok at hx; omega
      · refine .inr ?_
        have := hph.1
        omega
    by_cases hg : goT X AA L (a + m) = (k : Int)
    · rw [if_pos hg]
      have hpk : pend w = true := by
        rcases goT_spec (X := X) (AA := AA) (L := L) (a + m) with e | ⟨c, e, _, _, hp, _⟩
        · omega
        · obtain rfl : c = k := by omega
          rw [hwt] at hp; exact hp
      rcases hpre with ⟨_, h2⟩ | h1
      · rw [hpk] at h2; cases h2
      · refine .inr ?_
        have h3 := phi_serve (d := d) hx hw
        by_cases hdl : w.dl ≤ d
        · rw [if_pos ⟨hg, hdl⟩, Int.mul_add, Int.mul_one]
          rw [if_pos hdl] at h3
          omega
        · rw [if_neg (fun g => hdl g.2), Int.add_zero]
          rw [if_neg hdl] at h3
          omega
    · rw [if_neg hg, if_neg (fun g => hg g.1), Int.add_zero]
      exact hpre
def srvA (X : List Srv) (AA : List (List Arr)) (L : List Job) (d : Nat) (t : Nat) : Bool := decide (goT X AA L t < 0 ∨ (d : Int) < (gV (wT X AA L t) (goT X AA L t).toNat).dl)
theorem free_rk (X : List Srv) (AA : List (List Arr)) (L : List Job) (d a : Nat) : ∀ m : Nat, free (srvA X AA L d) a m + sumI (fun k => rkS X AA L d a k m) X.length = m
  | 0 => by
    have e : sumI (fun k => rkS X AA L d a k 0) X.length = 0 := sumI_zero fun _ _ => rfl
    rw [e]; rfl
  | m + 1 => by
    have ih := free_rk X AA L d a m
    have e1 : sumI (fun k => rkS X AA L d a k (m + 1)) X.length = sumI (fun k => rkS X AA L d a k m) X.length + sumI (fun k => if goT X AA L (a + m) = (k : Int) ∧ (gV (wT X AA L (a + m)) k).dl ≤ d then 1 else 0) X.length := sumI_add fun k _ => rfl
    have e2 : free (srvA X AA L d) a (m + 1) = free (srvA X AA L d) a m + if srvA X AA L d (a + m) = true then 1 else 0 := rfl
    rw [e1, e2]
    have e3 : sumI (fun k => if goT X AA L (a + m) = (k : Int) ∧ (gV (wT X AA L (a + m)) k).dl ≤ d then 1 else 0) X.length = if srvA X AA L d (a + m) = true then 0 else 1 := by
      rcases goT_spec (X := X) (AA := AA) (L := L) (a + m) with e | ⟨c, e, _, hc, _⟩
      · rw [if_pos (by unfold srvA; rw [decide_eq_true_iff]; exact .inl (by omega))]
        exact sumI_zero fun k _ => if_neg (fun g => by have := g.1; omega)
      · by_cases hd : (gV (wT X AA L (a + m)) c).dl ≤ d
        · rw [if_neg (by unfold srvA; rw [decide_eq_true_iff, e, Int.toNat_natCast]; omega)]
          have := sumI_atT (v := 1) (t := (c : Int)) X.length (by omega)
          rw [if_pos (by omega)] at this
          refine Eq.trans (sumI_congr fun k _ => ?_) this
          by_cases h : c = k
          · subst h; rw [if_pos ⟨e, hd⟩, if_pos rfl]
          · rw [if_neg (fun g => h (by have := g.1; omega)), if_neg (by omega)]
        · rw [if_pos (by unfold srvA; rw [decide_eq_true_iff, e, Int.toNat_natCast]; exact .inr (by omega))]
          refine sumI_zero fun k _ => if_neg (fun g => ?_)
          have h1 := g.1
          obtain rfl : c = k := by omega
          exact hd g.2
    rw [e3]
    split <;> omega
end
def srvDen (X : List Srv) : Int := X.foldl (fun a x => a * x.P) 1
def srvNumD (D : Int) (X : List Srv) : Int := X.foldl (fun a x => a + D / x.P * x.B) 0
def srvNum (X : List Srv) : Int := srvNumD (srvDen X) X
theorem srvDen_snoc (X : List Srv) (x : Srv) : srvDen (X ++ [x]) = srvDen X * x.P := by unfold srvDen; rw [List.foldl_append]; rfl
theorem srvNumD_snoc (D : Int) (X : List Srv) (x : Srv) : srvNumD D (X ++ [x]) = srvNumD D X + D / x.P * x.B := by unfold srvNumD; rw [List.foldl_append]; rfl
theorem srvNumD_sum (D : Int) (X : List Srv) : ∀ n, n ≤ X.length → srvNumD D (X.take n) = sumI (fun k => D / (gS X k).P * (gS X k).B) n
  | 0, _ => rfl
  | n + 1, h => by
    have hn : n < X.length := by omega
    rw [List.take_succ_eq_append_getElem hn, srvNumD_snoc, srvNumD_sum D X n (by omega)]
    simp [sumI, gS, List.getD_eq_getElem?_getD, hn]
theorem srvDen_dvd {X : List Srv} (hX : ∀ x ∈ X, x.ok) : ∀ n, n ≤ X.length → 1 ≤ srvDen (X.take n) ∧ ∀ k, k < n → (gS X k).P ∣ srvDen (X.take n)
  | 0, _ => ⟨by simp [srvDen], fun k hk => absurd hk (Nat.not_lt_zero k)⟩
  | n + 1, h => by
    have hn : n < X.length := by omega
    have ih := srvDen_dvd hX n (by omega)
    have hx := hX _ (List.getElem_mem hn)
    unfold Srv.ok at hx
    have eg : gS X n = X[n] := by simp [gS, List.getD_eq_getElem?_getD, hn]
    rw [List.take_succ_eq_append_getElem hn, srvDen_snoc]
    refine ⟨?_, fun k hk => ?_⟩
    · have : 1 * 1 ≤ srvDen (X.take n) * X[n].P := Int.mul_le_mul ih.1 (by omega) (by omega) (by omega)
      omega
    · by_cases hkn : k = n
      · subst hkn; rw [eg]; exact Int.dvd_mul_left _ _
      · exact Int.dvd_trans (ih.2 k (by omega)) (Int.dvd_mul_right _ _)
def srvFeas (S : List Task) (X : List Srv) : Prop := setOk S ∧ srvOk X ∧ ∀ t : Int, 1 ≤ t → t ≤ hyperN S → dbf S t * srvDen X + t * srvNum X ≤ t * srvDen X
noncomputable instance (S : List Task) (X : List Srv) : Decidable (srvFeas S X) := Classical.propDecidable _
theorem srv_fits {S : List Task} (hS : setOk S) {H D Nn : Int} (hH : isHyper S H) (h : ∀ t, 1 ≤ t → t ≤ H → dbf S t * D + t * Nn ≤ t * D) : ∀ t : Nat, dbf S t * D + t * Nn ≤ t * D := by
  intro t
  induction t using Nat.strongRecOn with
  | _ t ih =>
  have h1 := hH.1
  by_cases h0 : t = 0
  · subst h0
    have : dbf S ((0 : Nat) : Int) = 0 := by
      rw [dbf_all]
      unfold dbfN
      exact sumI_zero fun i hi => dbf1_zero (gT_ok hS (by omega) (by omega))
    rw [this]; simp
  · by_cases h2 : (t : Int) ≤ H
    · exact h t (by omega) h2
    · have ih' := ih (t - H.toNat) (by omega)
      have e := dbfN_shift hS hH S.length (Nat.le_refl _) ((t : Int) - H) (by omega)
      have h3 := h H h1 (Int.le_refl _)
      rw [dbf_all] at ih' h3 ⊢
      rw [show (t : Int) - H + H = t by omega] at e
      rw [show ((t - H.toNat : Nat) : Int) = (t : Int) - H by omega] at ih'
      rw [e, Int.add_mul]
      rw [Int.sub_mul, Int.sub_mul] at ih'
      omega
theorem srv_safe {S : List Task} {X : List Srv} {AA : List (List Arr)} {L : List Job} (hj : jobsLegal S L) (hf : srvFeas S X) : missedL L (srvFin X AA L) = [] := by
  obtain ⟨hS, hX, hfe⟩ := hf
  have hE : ∀ j ∈ L, 1 ≤ j.E := fun j h => (hj.2.1.mem h).2.2.1
  have hR : ∀ j ∈ L, 0 ≤ j.R := fun j h => (hj.2.1.mem h).2.1.1
  have hon := srv_on (X := X) (AA := AA) (L := L)
  unfold srvFin
  rw [(srv_sim (X := X) (AA := AA) (L := L) 120).2.2]
  rw [missed_nil]
  intro i hi
  cases hl : lateAt L (simU L (srvP X AA L) 120).fin i with
  | false => rfl
  | true =>
    exfalso
    have hi2 := hj.2.1.mem (getD_mem hi)
    have hi3 := hj.2.2.2 _ (getD_mem hi)
    have hx := gT_ok hj.1 hi2.1.1 hi2.1.2
    unfold Task.ok at hx
    obtain ⟨h1, h2⟩ := (late_iff hon.fair hE hi (by omega)).1 hl
    obtain ⟨d, hd⟩ := Int.eq_ofNat_of_zero_le (show 0 ≤ (L.getD i default).D by omega)
    rw [hd, Int.toNat_natCast] at h2
    have hdone : ∀ t, (srvS X AA L t).done = (simU L (srvP X AA L) t).done := fun t => (srv_sim (X := X) (AA := AA) (L := L) t).1
    have honly : Only (srvA X AA L d) (srvP X AA L) := fun now done hA => by
      have := of_decide_eq_false hA
      unfold srvP
      rw [if_neg (fun g => this (.inl g))]
    have hpk : ∀ t, srvP X AA L t (simU L (srvP X AA L) t).done = if goT X AA L t < 0 then edfPick L t (srvS X AA L t).done else -1 := fun t => by
      rw [hdone]; rfl
    have hready : ∀ t (b : Int), ((edfPick L t (srvS X AA L t).done = -1) ∨ b < (L.getD (edfPick L t (srvS X AA L t).done).toNat default).D) → ∀ i, i < L.length → (L.getD i default).D ≤ b → readyJ L (simU L (srvP X AA L) t).done t i = false := fun t b h i hi hD => by
      rw [← hdone]
      rcases bestF_spec (readyJ L (srvS X AA L t).done t) (fun i => (L.getD i default).D) L.length with ⟨_, h5⟩ | ⟨n, e, hn, hok, h5, _⟩
      · exact h5 i hi
      · change edfPick L t (srvS X AA L t).done = n at e
        cases hr : readyJ L (srvS X AA L t).done t i with
        | false => rfl
        | true =>
          exfalso
          have := h5 i hi hr
          rw [e, Int.toNat_natCast] at h
          omega
    obtain ⟨a, ha, hw, hx0⟩ := miss_gen (A := srvA X AA L d) (d := d) hon.fair honly hE hR (fun t ht hA => by
      have hA := of_decide_eq_true hA
      rw [hpk]
      rcases goT_spec (X := X) (AA := AA) (L := L) t with e | ⟨c, e, _, _, _, _, hed⟩
      · rw [if_pos (by omega)]
        rcases edf_fair L t (srvS X AA L t).done with e2 | ⟨n, e2, hn, _⟩
        · exact .inr (hready t d (.inl e2))
        · by_cases hnd : (L.getD n default).D ≤ d
          · exact .inl ⟨n, e2, hn, hnd⟩
          · refine .inr (hready t d (.inr ?_))
            rw [e2, Int.toNat_natCast]; omega
      · refine .inr (hready t d ?_)
        rw [e, Int.toNat_natCast] at hA
        rcases hed with h | h
        · exact .inl h
        · exact .inr (by omega)) hi (by omega) h2
    have hk : ∀ k, k < X.length → (gS X k).P * rkS X AA L d a k (d - a) ≤ ((d : Int) - a) * (gS X k).B := by
      intro k hk
      have hxk := gS_ok hX hk
      have hini : pend (svT X AA L a k) = false ∨ phi (gS X k) d (svT X AA L a k) = 0 := by
        rcases hx0 with rfl | ⟨hA1, hlt, hno⟩
        · refine .inl ?_
          rw [sv_zero hk]; rfl
        · have hA1 := of_decide_eq_true hA1
          rw [hpk] at hno
          have hs := sv_ok (L := L) (AA := AA) hX hk (a - 1)
          have hst := sv_step (AA := AA) (L := L) (t := a - 1) hk
          have hwt := wT_get (AA := AA) (L := L) (t := a - 1) hk
          have ha1 : 0 < a ∨ a = 0 := by omega
          rcases ha1 with ha1 | ha1
          rotate_left
          · subst ha1
            refine .inl ?_
            rw [sv_zero hk]; rfl
          rw [show a - 1 + 1 = a by omega] at hst
          have hw2 := hs.admS hxk (now := ((a - 1 : Nat) : Int)) (by omega)
          rw [hst]
          generalize hwv : admS (gS X k) (gAA AA k) ((a - 1 : Nat) : Int) (svT X AA L (a - 1) k) = w at *
          have hphi : ∀ s : Sv, (d : Int) < s.dl → phi (gS X k) d s = 0 := fun s h => if_neg (by omega)
          -- a pending server is not urgent
          have hpd : pend w = true → (d : Int) < w.dl := by
            intro hpw
            rcases goT_spec (X := X) (AA := AA) (L := L) (a - 1) with e | ⟨c, e, _, hc, hp, hmin, _⟩
            · apply Classical.byContradiction
              intro hnd
              rcases cand_spec X.length (wT X AA L (a - 1)) with ⟨_, h5⟩ | ⟨c, ec, hc, hp, hmin⟩
              · have := h5 k hk
                rw [hwt, hpw] at this; cases this
              · have h6 := hmin k hk (by rw [hwt]; exact hpw)
                rw [hwt] at h6
                have e3 : goT X AA L (a - 1) = srvGo X.length L (wT X AA L (a - 1)) (a - 1) (srvS X AA L (a - 1)).done := rfl
                unfold srvGo at e3
                rw [e, ec, Int.toNat_natCast] at e3
                split at e3
                · rename_i h7
                  rcases h7 with h7 | ⟨h7, h8⟩
                  · omega
                  · rcases edf_fair L (a - 1) (srvS X AA L (a - 1)).done with e4 | ⟨n, e4, hn, _⟩
                    · omega
                    · rw [e4, Int.toNat_natCast] at h8
                      refine hno ⟨n, ?_, hn, by omega⟩
                      rw [if_pos (by omega)]; exact e4
                · omega
            · rw [e, Int.toNat_natCast] at hA1
              have := hmin k hk (by rw [hwt]; exact hpw)
              rw [hwt] at this
              omega
          by_cases hg : goT X AA L (a - 1) = (k : Int)
          · rw [if_pos hg]
            refine .inr ?_
            have hpw : pend w = true := by
              rcases goT_spec (X := X) (AA := AA) (L := L) (a - 1) with e | ⟨c, e, _, _, hp, _⟩
              · omega
              · obtain rfl : c = k := by omega
                rw [hwt] at hp; exact hp
            have h5 := hpd hpw
            have h6 := phi_serve (d := d) hxk hw2
            have h7 := phi_nonneg (d := d) hxk (hw2.serve hxk hpw)
            rw [hphi w h5, if_neg (by omega)] at h6
            omega
          · rw [if_neg hg]
            cases hpw : pend w
            · exact .inl rfl
            · exact .inr (hphi w (hpd hpw))
      have hinv := rk_inv (AA := AA) (L := L) hX hk ha hini (d - a) (by omega)
      unfold Srv.ok at hxk
      rcases hinv with ⟨h5, _⟩ | h5
      · rw [h5, Int.mul_zero]
        exact Int.mul_nonneg (by omega) (by omega)
      · have h6 := phi_nonneg (d := d) (gS_ok hX hk) (sv_ok (L := L) (AA := AA) hX hk (a + (d - a)))
        omega
    have hfr := free_rk X AA L d a (d - a)
    have hwd := within_le hj ha
    have hfit := srv_fits hS (hyperN_hyper hS) hfe (d - a)
    have hdv := srvDen_dvd hX.2 X.length (Nat.le_refl _)
    have hnum := srvNumD_sum (srvDen X) X X.length (Nat.le_refl _)
    rw [List.take_length] at hdv hnum
    have hsum : srvDen X * sumI (fun k => rkS X AA L d a k (d - a)) X.length ≤ ((d : Int) - a) * srvNum X := by
      have e1 : srvNum X = sumI (fun k => srvDen X / (gS X k).P * (gS X k).B) X.length := hnum
      rw [e1]
      have key : ∀ n, n ≤ X.length → srvDen X * sumI (fun k => rkS X AA L d a k (d - a)) n ≤ ((d : Int) - a) * sumI (fun k => srvDen X / (gS X k).P * (gS X k).B) n := by
        intro n
        induction n with
        | zero => intro _; simp [sumI]
        | succ n ih =>
          intro hn
          have ih := ih (by omega)
          have hxk := gS_ok hX (show n < X.length by omega)
          unfold Srv.ok at hxk
          obtain ⟨q, hq⟩ := hdv.2 n (by omega)
          have hq0 : 0 ≤ q := by
            apply Classical.byContradiction
            intro h0
            have : (gS X n).P * q ≤ (gS X n).P * 0 := Int.mul_le_mul_of_nonneg_left (by omega) (by omega)
            omega
          have hdq : srvDen X / (gS X n).P = q := by rw [hq]; exact Int.mul_ediv_cancel_left _ (by omega)
          have h5 := hk n (by omega)
          have h6 : q * ((gS X n).P * rkS X AA L d a n (d - a)) ≤ q * (((d : Int) - a) * (gS X n).B) := Int.mul_le_mul_of_nonneg_left h5 hq0
          simp only [sumI]
          rw [Int.mul_add, Int.mul_add, hdq]
          have e2 : srvDen X * rkS X AA L d a n (d - a) = q * ((gS X n).P * rkS X AA L d a n (d - a)) := by
            rw [hq, ← Int.mul_assoc, Int.mul_comm q]
          have e3 : ((d : Int) - a) * (q * (gS X n).B) = q * (((d : Int) - a) * (gS X n).B) := by
            rw [← Int.mul_assoc, ← Int.mul_assoc, Int.mul_comm ((d : Int) - a) q]
          rw [e2, e3]
          omega
      exact key X.length (Nat.le_refl _)
    rw [show (((d - a : Nat)) : Int) = (d : Int) - a by omega] at hfit hfr
    have h5 : srvDen X * (free (srvA X AA L d) a (d - a) + 1) ≤ srvDen X * dbf S ((d : Int) - a) := Int.mul_le_mul_of_nonneg_left (by omega) (by omega)
    have h6 : srvDen X * (free (srvA X AA L d) a (d - a) + sumI (fun k => rkS X AA L d a k (d - a)) X.length) = srvDen X * ((d : Int) - a) := by rw [hfr]
    rw [Int.mul_add, Int.mul_one] at h5
    rw [Int.mul_add] at h6
    rw [Int.mul_comm (dbf S _) (srvDen X), Int.mul_comm ((d : Int) - a) (srvDen X)] at hfit
    have := hdv.1
    omega
end Go.Ds
