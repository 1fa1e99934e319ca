import Derived.Test.YtgnlibnnpipbhaaMM
namespace Go.Ds
theorem nxt_sum (S : List Task) (J : List Int) (r : Int) : ∀ (A : List Int) (c : Int), nxt S J A c r = c + (A.map (ask S J r)).sum
  | [], c => by simp [nxt_nil]
  | k :: A, c => by
    have e : nxt S J (k :: A) c r = nxt S J A (c + ask S J r k) r := rfl
    rw [e, nxt_sum S J r A, List.map_cons, List.sum_cons]; omega
theorem sum_nonneg {f : Int → Int} : ∀ (A : List Int), (∀ x ∈ A, 0 ≤ f x) → 0 ≤ (A.map f).sum
  | [], _ => by simp
  | a :: A, h => by
    have h1 := h a (by simp)
    have h2 := sum_nonneg A fun x hx => h x (by simp [hx])
    rw [List.map_cons, List.sum_cons]; omega
theorem sum_erase {f : Int → Int} : ∀ {B : List Int} {a : Int}, a ∈ B → (B.map f).sum = f a + ((B.erase a).map f).sum
  | b :: B, a, h => by
    by_cases e : b = a
    · subst e; simp
    · have hb : (b == a) = false := by simpa using e
      have ha : a ∈ B := by
        rcases List.mem_cons.1 h with h | h
        · exact absurd h.symm e
        · exact h
      rw [List.erase_cons, if_neg (by simp [hb]), List.map_cons, List.map_cons, List.sum_cons, List.sum_cons, sum_erase ha]; omega
theorem sum_sub {f : Int → Int} : ∀ {A B : List Int}, A.Nodup → (∀ x ∈ A, x ∈ B) → (∀ x ∈ B, 0 ≤ f x) → (A.map f).sum ≤ (B.map f).sum
  | [], B, _, _, h => by simpa using sum_nonneg B h
  | a :: A, B, hn, hs, h => by
    rw [List.nodup_cons] at hn
    rw [sum_erase (hs a (by simp)), List.map_cons, List.sum_cons]
    have := sum_sub (f := f) (B := B.erase a) hn.2 (fun x hx => (List.mem_erase_of_ne (by rintro rfl; exact hn.1 hx)).2 (hs x (by simp [hx]))) (fun x hx => h x (List.mem_of_mem_erase hx))
    omega
def passT (S : List Task) (i : Int) (A : List Int) : Prop := 0 ≤ respOf S (List.replicate S.length 0) A i
instance (S : List Task) (i : Int) (A : List Int) : Decidable (passT S i A) := by unfold passT; infer_instance
abbrev inS (S : List Task) (A : List Int) : Prop := ∀ x ∈ A, 0 ≤ x ∧ x < (S.length : Int)
theorem inst_of {S : List Task} (hS : setOk S) {A : List Int} {i : Int} (hi : 0 ≤ i ∧ i < (S.length : Int)) (hA : inS S A) (hn : A.Nodup) : Inst S (List.replicate S.length 0) A i :=
  ⟨hS, zeros_ok hS, hA, hi, by have := nodup_len _ A hn hA; have := hS.1; omega⟩
theorem pass_iff {S : List Task} (hS : setOk S) {A : List Int} {i : Int} (hi : 0 ≤ i ∧ i < (S.length : Int)) (hA : inS S A) (hn : A.Nodup) :
    passT S i A ↔ ∃ r, (gT S i).C ≤ r ∧ r ≤ (gT S i).D ∧ (gT S i).C + (A.map (ask S (List.replicate S.length 0) r)).sum ≤ r := by
  have hin := inst_of hS hi hA hn
  have ht := gT_ok hS hi.1 hi.2
  unfold Task.ok at ht
  unfold passT
  rcases respOf_char hin with ⟨e, h⟩ | ⟨r, ⟨h1, h2, h3⟩, e, _⟩
  · rw [e]
    refine ⟨fun h0 => absurd h0 (by omega), ?_⟩
    rintro ⟨r, h1, h2, h3⟩
    have := h r h1 (by rw [gI_zeros]; omega)
    rw [nxt_sum] at this; omega
  · rw [gI_zeros] at h2 e
    rw [e]
    rw [nxt_sum] at h3
    exact ⟨fun _ => ⟨r, h1, by omega, by omega⟩, fun _ => by omega⟩
theorem ask_nonneg {S : List Task} (hS : setOk S) {r k : Int} (hr : 0 ≤ r) (hk : 0 ≤ k ∧ k < (S.length : Int)) : 0 ≤ ask S (List.replicate S.length 0) r k := by
  have ht := gT_ok hS hk.1 hk.2
  unfold Task.ok at ht
  unfold ask
  rw [gI_zeros]
  exact Int.mul_nonneg (Int.ediv_nonneg (by omega) (by omega)) (by omega)
theorem pass_mono {S : List Task} (hS : setOk S) {A B : List Int} {i : Int} (hi : 0 ≤ i ∧ i < (S.length : Int)) (hB : inS S B) (hn : B.Nodup) (hA : A.Nodup) (hs : ∀ x ∈ A, x ∈ B) (h : passT S i B) : passT S i A := by
  have ht := gT_ok hS hi.1 hi.2
  unfold Task.ok at ht
  obtain ⟨r, h1, h2, h3⟩ := (pass_iff hS hi hB hn).1 h
  refine (pass_iff hS hi (fun x hx => hB x (hs x hx)) hA).2 ⟨r, h1, h2, ?_⟩
  have := sum_sub (f := ask S (List.replicate S.length 0) r) hA hs fun x hx => ask_nonneg hS (by omega) (hB x hx)
  omega
theorem pass_swap {S : List Task} (hS : setOk S) {A : List Int} {i j : Int} (hn : (i :: j :: A).Nodup) (hA : inS S (i :: j :: A)) (hd : (gT S j).D ≤ (gT S i).D) (h : passT S j (i :: A)) : passT S i (j :: A) := by
  have hi := hA i (by simp)
  have hj := hA j (by simp)
  have hAA : inS S A := fun x hx => hA x (by simp [hx])
  rw [List.nodup_cons, List.nodup_cons] at hn
  have n1 : (i :: A).Nodup := List.nodup_cons.2 ⟨fun e => hn.1 (by simp [e]), hn.2.2⟩
  have n2 : (j :: A).Nodup := List.nodup_cons.2 hn.2
  have s1 : inS S (i :: A) := fun x hx => by
    rcases List.mem_cons.1 hx with rfl | hx
    · exact hi
    · exact hAA x hx
  have s2 : inS S (j :: A) := fun x hx => hA x (List.mem_cons_of_mem _ hx)
  have ti := gT_ok hS hi.1 hi.2
  have tj := gT_ok hS hj.1 hj.2
  unfold Task.ok at ti tj
  obtain ⟨r, h1, h2, h3⟩ := (pass_iff hS hj s1 n1).1 h
  have h0 := sum_nonneg (f := ask S (List.replicate S.length 0) r) A fun x hx => ask_nonneg hS (by omega) (hAA x hx)
  rw [List.map_cons, List.sum_cons] at h3
  have e1 : ask S (List.replicate S.length 0) r j = (gT S j).C := by
    unfold ask
    rw [gI_zeros, show (r + 0 + (gT S j).P - 1) / (gT S j).P = 1 from by
      have a1 : 1 ≤ (r + 0 + (gT S j).P - 1) / (gT S j).P := (Int.le_ediv_iff_mul_le (by omega)).2 (by omega)
      have a2 : (r + 0 + (gT S j).P - 1) / (gT S j).P < 2 := (Int.ediv_lt_iff_lt_mul (by omega)).2 (by omega)
      omega, Int.one_mul]
  have e2 : (gT S i).C ≤ ask S (List.replicate S.length 0) r i := by
    unfold ask
    rw [gI_zeros]
    have a1 : 1 ≤ (r + 0 + (gT S i).P - 1) / (gT S i).P := (Int.le_ediv_iff_mul_le (by omega)).2 (by omega)
    have := Int.mul_le_mul_of_nonneg_right a1 (show 0 ≤ (gT S i).C by omega)
    omega
  refine (pass_iff hS hi s2 n2).2 ⟨r, by omega, by omega, ?_⟩
  rw [List.map_cons, List.sum_cons]
  omega
def audOk (S : List Task) (L : List Int) : Prop := ∀ T : List Int, T ≠ [] → T.Nodup → (∀ x ∈ T, x ∈ L) → ∃ j ∈ T, passT S j (T.erase j)
theorem last_of (O T : List Int) (hT : T ≠ []) : ∀ k, k ≤ O.length → (∀ x ∈ T, x ∈ O.take k) → ∃ m, ∃ h : m < O.length, O[m] ∈ T ∧ ∀ x ∈ T, x ∈ O.take (m + 1)
  | 0, _, h => by
    obtain ⟨x, hx⟩ := List.exists_mem_of_ne_nil T hT
    exact absurd (h x hx) (by simp)
  | k + 1, hk, h => by
    by_cases e : O[k] ∈ T
    · exact ⟨k, by omega, e, h⟩
    · refine last_of O T hT k (by omega) fun x hx => ?_
      have := h x hx
      rw [List.take_succ_eq_append_getElem (by omega), List.mem_append, List.mem_singleton] at this
      rcases this with h | rfl
      · exact h
      · exact absurd hx e
theorem dm_aud {S : List Task} {O L : List Int} (hO : ordOk S O) (hL : ∀ x, x ∈ L ↔ x ∈ O) (hd : O.Pairwise fun x y => (gT S x).D ≤ (gT S y).D) :
    (∀ m (h : m < O.length), passT S O[m] (O.take m)) ↔ audOk S L := by
  have hS := hO.1
  constructor
  · intro h T hT hn hs
    obtain ⟨m, hm, h1, h2⟩ := last_of O T hT O.length (Nat.le_refl _) fun x hx => by rw [List.take_length]; exact (hL x).1 (hs x hx)
    refine ⟨O[m], h1, ?_⟩
    refine pass_mono hS (hO.2.2.1 _ (List.getElem_mem hm)) (fun x hx => hO.2.2.1 x (List.mem_of_mem_take hx)) (hO.2.2.2.sublist (List.take_sublist ..)) (hn.erase _) (fun x hx => ?_) (h m hm)
    rw [List.Nodup.mem_erase_iff hn] at hx
    have := h2 x hx.2
    rw [List.take_succ_eq_append_getElem hm, List.mem_append, List.mem_singleton] at this
    rcases this with h | h
    · exact h
    · exact absurd h hx.1
  · intro h m hm
    have hin := hO.2.2.1 _ (List.getElem_mem hm)
    have nA : (O.take m).Nodup := hO.2.2.2.sublist (List.take_sublist ..)
    have sA : inS S (O.take m) := fun x hx => hO.2.2.1 x (List.mem_of_mem_take hx)
    have eT : O.take (m + 1) = O.take m ++ [O[m]] := List.take_succ_eq_append_getElem hm
    have nT : (O.take (m + 1)).Nodup := hO.2.2.2.sublist (List.take_sublist ..)
    have sT : inS S (O.take (m + 1)) := fun x hx => hO.2.2.1 x (List.mem_of_mem_take hx)
    have notin : O[m] ∉ O.take m := ((nodup_take_succ hm).1 nT).2
    obtain ⟨j, hj, hp⟩ := h (O.take (m + 1)) (by rw [eT]; exact List.append_ne_nil_of_right_ne_nil _ (by simp)) nT (fun x hx => (hL x).2 (List.mem_of_mem_take hx))
    by_cases e : j = O[m]
    · subst e
      refine pass_mono hS hin (fun x hx => sT x (List.mem_of_mem_erase hx)) (nT.erase _) nA (fun x hx => ?_) hp
      refine (List.Nodup.mem_erase_iff nT).2 ⟨fun e => notin (e ▸ hx), ?_⟩
      rw [eT]; exact List.mem_append_left _ hx
    · have hjA : j ∈ O.take m := by
        rw [eT, List.mem_append, List.mem_singleton] at hj
        rcases hj with h | h
        · exact h
        · exact absurd h e
      have hdj : (gT S j).D ≤ (gT S O[m]).D := by
        obtain ⟨q, hq, rfl⟩ := List.mem_take_iff_getElem.1 hjA
        exact (List.pairwise_iff_getElem.1 hd) q m (by omega) hm (by omega)
      have nE : ((O.take m).erase j).Nodup := nA.erase _
      have nC : (O[m] :: j :: (O.take m).erase j).Nodup := by
        rw [List.nodup_cons, List.nodup_cons]
        refine ⟨fun h => ?_, fun h => ((List.Nodup.mem_erase_iff nA).1 h).1 rfl, nE⟩
        rcases List.mem_cons.1 h with h | h
        · exact e h.symm
        · exact notin (List.mem_of_mem_erase h)
      have sC : inS S (O[m] :: j :: (O.take m).erase j) := fun x hx => by
        rcases List.mem_cons.1 hx with rfl | hx
        · exact hin
        · rcases List.mem_cons.1 hx with rfl | hx
          · exact sA _ hjA
          · exact sA x (List.mem_of_mem_erase hx)
      have hp2 : passT S j (O[m] :: (O.take m).erase j) := by
        refine pass_mono hS (sA j hjA) (fun x hx => sT x (List.mem_of_mem_erase hx)) (nT.erase _) ?_ (fun x hx => ?_) hp
        · rw [List.nodup_cons]; exact ⟨fun h => notin (List.mem_of_mem_erase h), nE⟩
        · refine (List.Nodup.mem_erase_iff nT).2 ?_
          rw [eT]
          rcases List.mem_cons.1 hx with rfl | hx
          · exact ⟨fun h => e h.symm, List.mem_append_right _ (by simp)⟩
          · have := (List.Nodup.mem_erase_iff nA).1 hx
            exact ⟨this.1, List.mem_append_left _ this.2⟩
      refine pass_mono hS hin (fun x hx => sC x (List.mem_cons_of_mem _ hx)) (List.nodup_cons.1 nC).2 nA (fun x hx => ?_) (pass_swap hS nC sC hdj hp2)
      by_cases ex : x = j
      · simp [ex]
      · exact List.mem_cons_of_mem _ ((List.Nodup.mem_erase_iff nA).2 ⟨ex, hx⟩)
def aud (S : List Task) : Nat → List Int → Bool
  | 0, _ => true
  | l + 1, L => if idxF (fun i => decide (passT S i (L.filter fun k => decide (k ≠ i)))) L < 0 then false else aud S l (L.eraseIdx (idxF (fun i => decide (passT S i (L.filter fun k => decide (k ≠ i)))) L).toNat)
theorem idxF_get {α : Type} {p : α → Bool} {L : List α} (h : 0 ≤ idxF p L) : ∃ g : (idxF p L).toNat < L.length, p L[(idxF p L).toNat] = true := by
  unfold idxF at h ⊢
  cases e : L.findIdx? p with
  | none => rw [e] at h; simp at h
  | some i =>
    simp only [Int.toNat_natCast]
    rw [List.findIdx?_eq_some_iff_getElem] at e
    exact ⟨e.1, e.2.1⟩
theorem mem_eraseIdx_of {L : List Int} (hn : L.Nodup) {k : Nat} (h : k < L.length) {x : Int} : x ∈ L.eraseIdx k ↔ x ∈ L ∧ x ≠ L[k] := by
  rw [List.eraseIdx_eq_take_drop_succ, List.mem_append]
  have e : L = L.take k ++ L[k] :: L.drop (k + 1) := by rw [← List.drop_eq_getElem_cons h, List.take_append_drop]
  have h1 : L[k] ∉ L.take k := ((nodup_take_succ h).1 (hn.sublist (List.take_sublist ..))).2
  have h2 : L[k] ∉ L.drop (k + 1) := by
    have := hn.sublist (List.drop_sublist k L)
    rw [List.drop_eq_getElem_cons h, List.nodup_cons] at this
    exact this.1
  constructor
  · rintro (g | g)
    · exact ⟨List.mem_of_mem_take g, fun e => h1 (e ▸ g)⟩
    · exact ⟨List.mem_of_mem_drop g, fun e => h2 (e ▸ g)⟩
  · rintro ⟨g, ne⟩
    rw [e, List.mem_append, List.mem_cons] at g
    rcases g with g | g | g
    · exact .inl g
    · exact absurd g ne
    · exact .inr g
theorem aud_iff {S : List Task} (hS : setOk S) : ∀ (l : Nat) (L : List Int), L.length = l → L.Nodup → inS S L → (aud S l L = true ↔ audOk S L)
  | 0, L, hl, hn, hi => by
    have : L = [] := List.eq_nil_of_length_eq_zero hl
    subst this
    refine ⟨fun _ T hT _ hs => ?_, fun _ => rfl⟩
    obtain ⟨x, hx⟩ := List.exists_mem_of_ne_nil T hT
    exact absurd (hs x hx) (by simp)
  | l + 1, L, hl, hn, hi => by
    unfold aud
    have nF : ∀ j, (L.filter fun k => decide (k ≠ j)).Nodup := fun j => hn.sublist (List.filter_sublist ..)
    have sF : ∀ j, inS S (L.filter fun k => decide (k ≠ j)) := fun j x hx => hi x (List.mem_filter.1 hx).1
    constructor
    · intro h
      split at h
      · cases h
      rename_i hge
      obtain ⟨g, hp⟩ := idxF_get (show 0 ≤ idxF (fun i => decide (passT S i (L.filter fun k => decide (k ≠ i)))) L by omega)
      generalize (idxF (fun i => decide (passT S i (L.filter fun k => decide (k ≠ i)))) L).toNat = q at *
      simp only [decide_eq_true_eq] at hp
      have ih := (aud_iff hS l (L.eraseIdx q) (by rw [List.length_eraseIdx, if_pos g]; omega) (hn.sublist (List.eraseIdx_sublist ..)) fun x hx => hi x (List.mem_of_mem_eraseIdx hx)).1 h
      intro T hT nT sT
      by_cases e : L[q] ∈ T
      · refine ⟨L[q], e, pass_mono hS (hi _ (List.getElem_mem g)) (sF _) (nF _) (nT.erase _) (fun x hx => ?_) hp⟩
        have := (List.Nodup.mem_erase_iff nT).1 hx
        exact List.mem_filter.2 ⟨sT x this.2, by simpa using this.1⟩
      · exact ih T hT nT fun x hx => (mem_eraseIdx_of hn g).2 ⟨sT x hx, fun e2 => e (e2 ▸ hx)⟩
    · intro h
      have h0 : 0 ≤ idxF (fun i => decide (passT S i (L.filter fun k => decide (k ≠ i)))) L := by
        rw [idxF_any]
        obtain ⟨j, hj, hp⟩ := h L (by intro e; rw [e] at hl; simp at hl) hn fun x hx => hx
        refine ⟨j, hj, ?_⟩
        simp only [decide_eq_true_eq]
        refine pass_mono hS (hi j hj) (fun x hx => hi x (List.mem_of_mem_erase hx)) (hn.erase _) (nF _) (fun x hx => ?_) hp
        have := List.mem_filter.1 hx
        exact (List.Nodup.mem_erase_iff hn).2 ⟨by simpa using this.2, this.1⟩
      rw [if_neg (by omega)]
      obtain ⟨g, _⟩ := idxF_get h0
      exact (aud_iff hS l _ (by rw [List.length_eraseIdx, if_pos g]; omega) (hn.sublist (List.eraseIdx_sublist ..)) fun x hx => hi x (List.mem_of_mem_eraseIdx hx)).2 fun T hT nT sT => h T hT nT fun x hx => List.mem_of_mem_eraseIdx (sT x hx)
end Go.Ds
