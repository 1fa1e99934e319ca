/- The plain law: response times as least fixed points; more jitter never shortens them. No program in sight. -/
import Derived.Test.YtgnlibnnpipbhaaM2
namespace Go.Ds

theorem nodup_len : ∀ (n : Nat) (O : List Int), O.Nodup → (∀ x ∈ O, 0 ≤ x ∧ x < n) → O.length ≤ n
  | 0, O, _, h => by
    cases O with
    | nil => simp
    | cons x O => have := h x (by simp); omega
  | n + 1, O, hn, h => by
    by_cases hm : (n : Int) ∈ O
    · have h1 := nodup_len n (O.erase n) (hn.erase _) (fun x hx => by
        have h2 := (List.Nodup.mem_erase_iff hn).1 hx
        have := h x h2.2
        have : x ≠ n := h2.1
        omega)
      rw [List.length_erase_of_mem hm] at h1
      omega
    · have := nodup_len n O hn (fun x hx => by
        have := h x hx
        have : x ≠ n := fun e => hm (e ▸ hx)
        omega)
      omega

/-- A valid order holds every task. -/
theorem ordOk.mem {S : List Task} {O : List Int} (h : ordOk S O) {i : Int} (h0 : 0 ≤ i) (h1 : i < S.length) : i ∈ O := by
  refine Classical.byContradiction fun hm => ?_
  have := nodup_len S.length (i :: O) (by rw [List.nodup_cons]; exact ⟨hm, h.2.2.2⟩) (fun x hx => by
    rcases List.mem_cons.1 hx with rfl | hx
    · exact ⟨h0, h1⟩
    · exact h.2.2.1 x hx)
  rw [List.length_cons, h.2.1] at this
  omega

theorem resps_at {S : List Task} {J O : List Int} (hO : ordOk S O) : ∀ (k m : Nat) (hm : m < k) (hk : k ≤ O.length), gI (resps S J O k) (O.getD m 0) = respOf S J (O.take m) (O.getD m 0)
  | 0, m, hm, _ => by omega
  | k + 1, m, hm, hk => by
    have hkO : k < O.length := by omega
    have hmO : m < O.length := by omega
    have hr : ∀ q, (h : q < O.length) → 0 ≤ O[q] ∧ O[q] < S.length := fun q h => hO.2.2.1 _ (List.getElem_mem h)
    have gk : O.getD k 0 = O[k] := by simp [List.getD_eq_getElem?_getD, hkO]
    have gm : O.getD m 0 = O[m] := by simp [List.getD_eq_getElem?_getD, hmO]
    unfold gI
    rw [resps, List.getD_eq_getElem?_getD, List.getElem?_set]
    rcases Nat.lt_succ_iff_lt_or_eq.1 hm with h' | rfl
    · have hne : (O.getD k 0).toNat ≠ (O.getD m 0).toNat := by
        rw [gk, gm]
        have h1 := hr k hkO
        have h2 := hr m hmO
        have := (List.pairwise_iff_getElem.1 hO.2.2.2) m k hmO hkO h'
        intro e
        exact this (by omega)
      rw [if_neg hne]
      have := resps_at (J := J) hO k m h' (by omega)
      unfold gI at this
      rwa [List.getD_eq_getElem?_getD] at this
    · have h1 := hr m hkO
      rw [if_pos rfl, if_pos (by rw [resps_length, gk]; omega)]
      rfl

/-- The response time of a task is its least fixed point, if that is in time. -/
theorem respOf_char {S : List Task} {J A : List Int} {i : Int} (h : Inst S J A i) :
    (respOf S J A i = -1 ∧ ∀ r, (gT S i).C ≤ r → r + gI J i ≤ (gT S i).D → r < nxt S J A (gT S i).C r) ∨
    ∃ r, ((gT S i).C ≤ r ∧ r + gI J i ≤ (gT S i).D ∧ nxt S J A (gT S i).C r = r) ∧ respOf S J A i = r + gI J i ∧ ∀ r', (gT S i).C ≤ r' → r' < r → r' < nxt S J A (gT S i).C r' := by
  have key : ∀ (n : Nat) (r : Int), (6001 - r).toNat ≤ n → Step S J A i r → (∀ r', (gT S i).C ≤ r' → r' < r → r' < nxt S J A (gT S i).C r') →
      (respOf S J A i = -1 ∧ ∀ r, (gT S i).C ≤ r → r + gI J i ≤ (gT S i).D → r < nxt S J A (gT S i).C r) ∨
      ∃ r, ((gT S i).C ≤ r ∧ r + gI J i ≤ (gT S i).D ∧ nxt S J A (gT S i).C r = r) ∧ respOf S J A i = r + gI J i ∧ ∀ r', (gT S i).C ≤ r' → r' < r → r' < nxt S J A (gT S i).C r' := by
    intro n
    induction n with
    | zero => intro r hn hs; have := hs.2.1; omega
    | succ n ih =>
      intro r hn hs hlow
      by_cases hle : r + gI J i ≤ (gT S i).D
      · obtain ⟨hr, hst, hgo⟩ := hs.go h hle
        by_cases e : nxt S J A (gT S i).C r = r
        · exact .inr ⟨r, ⟨hs.1, hle, e⟩, hst e, hlow⟩
        · obtain ⟨hs', hlt⟩ := hgo e
          refine ih _ (by omega) hs' fun r' h1 h2 => ?_
          rcases Int.lt_or_le r' r with h3 | h3
          · exact hlow r' h1 h3
          · have := nxt_mono (J := J) h.hS h3 A (gT S i).C (gT S i).C (by omega) h.hA
            omega
      · exact .inl ⟨hs.stop hle, fun r' h1 h2 => hlow r' h1 (by omega)⟩
  exact key _ _ (Nat.le_refl _) (Step.first h) fun r' h1 h2 => by omega

theorem nxt_le {S : List Task} {J J' : List Int} {r : Int} (hS : setOk S) : ∀ (A : List Int) (c c' : Int), c ≤ c' → (∀ k ∈ A, 0 ≤ k ∧ k < S.length) → (∀ k ∈ A, gI J k ≤ gI J' k) → nxt S J A c r ≤ nxt S J' A c' r
  | [], c, c', hc, _, _ => hc
  | k :: A, c, c', hc, h, hJ => by
    have hk := h k (by simp)
    have h1 := gT_ok hS hk.1 hk.2
    unfold Task.ok at h1
    have hj := hJ k (by simp)
    have : ask S J r k ≤ ask S J' r k := Int.mul_le_mul_of_nonneg_right (Int.ediv_le_ediv (by omega) (by omega)) (by omega)
    exact nxt_le hS A (c + ask S J r k) (c' + ask S J' r k) (by omega) (fun x hx => h x (by simp [hx])) fun x hx => hJ x (by simp [hx])

/-- More jitter never shortens a response time. -/
theorem respOf_mono {S : List Task} {J J' A : List Int} {i : Int} (h : Inst S J A i) (h' : Inst S J' A i) (hA : ∀ k ∈ A, gI J k ≤ gI J' k) (hi : gI J i ≤ gI J' i) (hv : 0 ≤ respOf S J' A i) :
    0 ≤ respOf S J A i ∧ respOf S J A i ≤ respOf S J' A i := by
  have hj := gI_ok h.hJ h.hi.1 h.hi.2
  have ht := gT_ok h.hS h.hi.1 h.hi.2
  unfold Task.ok at ht
  rcases respOf_char h' with ⟨e, _⟩ | ⟨r', ⟨c1, c2, c3⟩, e', _⟩
  · omega
  · have hle := nxt_le (r := r') h.hS A (gT S i).C (gT S i).C (by omega) h.hA hA
    rcases respOf_char h with ⟨e, hno⟩ | ⟨r, ⟨d1, d2, d3⟩, e, hmin⟩
    · have := hno r' c1 (by omega); omega
    · have : ¬ r' < r := fun hlt => by have := hmin r' c1 hlt; omega
      omega

theorem respOf_bounds {S : List Task} {J A : List Int} {i : Int} (h : Inst S J A i) (hv : 0 ≤ respOf S J A i) : gI J i + (gT S i).C ≤ respOf S J A i ∧ respOf S J A i ≤ (gT S i).D := by
  rcases respOf_char h with ⟨e, _⟩ | ⟨r, ⟨d1, d2, d3⟩, e, _⟩ <;> omega

theorem zeros_ok {S : List Task} (hS : setOk S) : jitOk S (List.replicate S.length 0) := by
  refine ⟨hS, by simp, fun p hp => ?_⟩
  have h1 := List.of_mem_zip hp
  have h2 := hS.2 _ h1.1
  rw [List.mem_replicate] at h1
  unfold Task.ok at h2
  omega

theorem gI_zeros (n : Nat) (k : Int) : gI (List.replicate n 0) k = 0 := by
  unfold gI
  rw [List.getD_eq_getElem?_getD, List.getElem?_replicate]
  split <;> rfl

theorem gI_nonneg {S : List Task} {J : List Int} (hJ : jitOk S J) (k : Int) : 0 ≤ gI J k := by
  by_cases h : k.toNat < S.length
  · have := (gI_ok hJ (k := k.toNat) (by omega) (by omega)).1
    unfold gI at this ⊢
    rwa [Int.toNat_natCast] at this
  · have hj := hJ.2.1
    unfold gI
    rw [List.getD_eq_getElem?_getD, List.getElem?_eq_none (by omega)]
    simp

theorem gI_nat {J : List Int} {k : Nat} (h : k < J.length) : gI J k = J[k] := by simp [gI, List.getD_eq_getElem?_getD, h]
theorem gT_nat {S : List Task} {k : Nat} (h : k < S.length) : gT S k = S[k] := by simp [gT, List.getD_eq_getElem?_getD, h]

theorem inst_take {S : List Task} {J O : List Int} (hJ : jitOk S J) (hO : ordOk S O) {m : Nat} (hm : m < O.length) : Inst S J (O.take m) O[m] := by
  refine ⟨hJ.1, hJ, fun x hx => hO.2.2.1 x (List.mem_of_mem_take hx), hO.2.2.1 _ (List.getElem_mem hm), ?_⟩
  have := hJ.1.1
  have := hO.2.1
  rw [List.length_take]; omega

theorem resps_get {S : List Task} {J O : List Int} (hO : ordOk S O) {i : Int} (h0 : 0 ≤ i) (h1 : i < S.length) : ∃ m, ∃ h : m < O.length, O[m] = i ∧ gI (resps S J O O.length) i = respOf S J (O.take m) i := by
  obtain ⟨m, hm, e⟩ := List.getElem_of_mem (hO.mem h0 h1)
  refine ⟨m, hm, e, ?_⟩
  have := resps_at (J := J) hO O.length m hm (Nat.le_refl _)
  rw [show O.getD m 0 = i from by simp [List.getD_eq_getElem?_getD, hm, e]] at this
  exact this

theorem resps_mono {S : List Task} {J J' O : List Int} (hJ : jitOk S J) (hJ' : jitOk S J') (hO : ordOk S O) (hle : ∀ k, gI J k ≤ gI J' k) {i : Int} (h0 : 0 ≤ i) (h1 : i < S.length) (hv : 0 ≤ gI (resps S J' O O.length) i) :
    0 ≤ gI (resps S J O O.length) i ∧ gI (resps S J O O.length) i ≤ gI (resps S J' O O.length) i := by
  obtain ⟨m, hm, e, e1⟩ := resps_get (J := J) hO h0 h1
  obtain ⟨m', hm', e', e1'⟩ := resps_get (J := J') hO h0 h1
  have hmm : m = m' := by
    refine Classical.byContradiction fun hne => ?_
    rcases Nat.lt_or_gt_of_ne hne with h | h
    · exact (List.pairwise_iff_getElem.1 hO.2.2.2) m m' hm hm' h (e.trans e'.symm)
    · exact (List.pairwise_iff_getElem.1 hO.2.2.2) m' m hm' hm h (e'.trans e.symm)
  subst hmm
  subst e
  rw [e1'] at hv ⊢
  rw [e1]
  exact respOf_mono (inst_take hJ hO hm) (inst_take hJ' hO hm) (fun k _ => hle k) (hle _) hv

theorem resps_bounds {S : List Task} {J O : List Int} (hJ : jitOk S J) (hO : ordOk S O) {i : Int} (h0 : 0 ≤ i) (h1 : i < S.length) (hv : 0 ≤ gI (resps S J O O.length) i) :
    gI J i + (gT S i).C ≤ gI (resps S J O O.length) i ∧ gI (resps S J O O.length) i ≤ (gT S i).D := by
  obtain ⟨m, hm, e, e1⟩ := resps_get (J := J) hO h0 h1
  subst e
  rw [e1] at hv ⊢
  exact respOf_bounds (inst_take hJ hO hm) hv

theorem resps_range {S : List Task} {J O : List Int} (hJ : jitOk S J) (hO : ordOk S O) {i : Int} (h0 : 0 ≤ i) (h1 : i < S.length) : -1 ≤ gI (resps S J O O.length) i ∧ gI (resps S J O O.length) i ≤ 12 := by
  obtain ⟨m, hm, e, e1⟩ := resps_get (J := J) hO h0 h1
  subst e
  have hi := inst_take hJ hO hm
  have hj := gI_ok hJ h0 h1
  have ht := gT_ok hJ.1 h0 h1
  unfold Task.ok at ht
  rw [e1]
  rcases respOf_char hi with ⟨e, _⟩ | ⟨r, ⟨d1, d2, d3⟩, e, _⟩ <;> omega
end Go.Ds
