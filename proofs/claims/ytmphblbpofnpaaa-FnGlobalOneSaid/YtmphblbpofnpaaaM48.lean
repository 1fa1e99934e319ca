import Derived.Test.YtmphblbpofnpaaaM44
import Derived.Test.YtmphblbpofnpaaaMM
namespace Go.Ds
section
variable {L : List Job} {S : List Task}
theorem gRow_one (L : List Job) (t : Nat) : gRow L 1 t = if edfPick L t (gSt L 1 t).done < 0 then [] else [(edfPick L t (gSt L 1 t).done).toNat] := by
  have e : gNext L t (gSt L 1 t).done [] = edfPick L t (gSt L 1 t).done := by
    unfold gNext edfPick
    congr 1
    funext i
    simp
  unfold gRow
  simp only [gSel, e, List.nil_append]
theorem gSt_one (L : List Job) : ∀ t : Nat, (gSt L 1 t).done = (simU L (edfPick L) t).done ∧ (gSt L 1 t).fin = (simU L (edfPick L) t).fin
  | 0 => ⟨rfl, rfl⟩
  | t + 1 => by
    obtain ⟨h1, h2⟩ := gSt_one L t
    have hr := gRow_one L t
    have e : gSt L 1 (t + 1) = gDo L t (gRow L 1 t) (gSt L 1 t) := rfl
    have e2 : simU L (edfPick L) (t + 1) = tick L (fun _ now done => (edfPick L now done, ())) t (simU L (edfPick L) t) := rfl
    rw [e, e2, hr, h1]
    unfold tick
    simp only
    by_cases g : edfPick L t (simU L (edfPick L) t).done < 0
    · rw [if_pos g, if_pos g]
      exact ⟨h1, h2⟩
    · rw [if_neg g, if_neg g]
      unfold gDo
      simp only [List.foldl_cons, List.foldl_nil]
      unfold gDo1
      rw [h1, h2]
      exact ⟨rfl, rfl⟩
theorem gFin_one (L : List Job) : gFin L 1 = (simU L (edfPick L) 120).fin := (gSt_one L 120).2
theorem gFin_at' {M t i : Nat} (hE : ∀ j ∈ L, 1 ≤ j.E) (ht : t < 120) (hi : i ∈ gRow L M t) (he : gDn L M t i + 1 = (L.getD i default).E) : gI (gFin L M) i = (t : Int) + 1 := by
  have hlt := (gRow_rdy hi).1
  have h1 := gFin_succ (L := L) (m := M) t i
  rw [if_pos ⟨hi, he⟩] at h1
  have h2 : gDn L M (t + 1) i = (L.getD i default).E := by rw [gDn_succ, if_pos hi]; exact he
  have h3 := (gFin_keep hE hlt h2 (120 - (t + 1))).2
  rw [show t + 1 + (120 - (t + 1)) = 120 by omega] at h3
  exact h3.trans h1
theorem nodup_le : ∀ {n : Nat} {o : List Int}, o.Nodup → (∀ x ∈ o, 0 ≤ x ∧ x < (n : Int)) → o.length ≤ n
  | 0, [], _, _ => Nat.le_refl _
  | 0, x :: o, _, h => by have := h x (List.mem_cons_self ..); omega
  | n + 1, o, hn, h => by
    have h1 := nodup_le (n := n) (o := o.filter fun x => decide (x ≠ (n : Int))) (hn.filter _) (fun x hx => by
      rw [List.mem_filter] at hx
      have := h x hx.1
      have h2 : x ≠ (n : Int) := by simpa using hx.2
      omega)
    have h2 : o.length ≤ (o.filter fun x => decide (x ≠ (n : Int))).length + 1 := by
      clear h h1
      induction o with
      | nil => simp
      | cons a o ih =>
        have hn2 := List.nodup_cons.1 hn
        rw [List.filter_cons]
        by_cases e : a = (n : Int)
        · rw [if_neg (by simp [e])]
          have : o.filter (fun x => decide (x ≠ (n : Int))) = o := by
            rw [List.filter_eq_self]
            intro x hx
            have : x ≠ (n : Int) := fun g => by rw [g, ← e] at hx; exact hn2.1 hx
            simpa using this
          rw [this]; simp
        · rw [if_pos (by simpa using e), List.length_cons, List.length_cons]
          have := ih hn2.2
          omega
    omega
theorem same_task (h : jobsLegal S L) {i k t : Nat} (hi : i < L.length) (hk : k < L.length) (hT : (L.getD i default).T = (L.getD k default).T) (h1 : (L.getD i default).R ≤ t ∧ (t : Int) < (L.getD i default).R + (L.getD i default).E) (h2 : (L.getD k default).R ≤ t ∧ (t : Int) < (L.getD k default).R + (L.getD k default).E) : i = k := by
  have row : ∀ {i : Nat}, i < L.length → (0 ≤ (L.getD i default).T ∧ (L.getD i default).T < S.length) ∧ (L.getD i default).E ≤ perOf S (L.getD i default).T ∧ 0 ≤ perOf S (L.getD i default).T := fun {i} hi => by
    have hm := h.2.1.mem (getD_mem hi)
    have ht := gT_ok h.1 hm.1.1 hm.1.2
    unfold Task.ok at ht
    have hc : costOf S (L.getD i default).T = (gT S (L.getD i default).T).C := rfl
    unfold perOf
    omega
  have hper : ∀ j ∈ L, 0 ≤ perOf S j.T := fun j hj => by
    obtain ⟨i, hi, rfl⟩ := List.getElem_of_mem hj
    have := row hi
    rw [show L.getD i default = L[i] by simp [List.getD_eq_getElem?_getD, hi]] at this
    exact this.2.2
  rcases Nat.lt_trichotomy i k with g | g | g
  · have := spaced_gap h.2.2.1 hper g hk hT
    have r := row hi
    rw [hT] at r
    omega
  · exact g
  · have := spaced_gap h.2.2.1 hper g hi hT.symm
    have r := row hk
    rw [← hT] at r
    omega
def fullD (j : Job) (t : Nat) : Int := if (t : Int) ≤ j.R then 0 else if (t : Int) ≤ j.R + j.E then t - j.R else j.E
theorem many_done (h : jobsLegal S L) : ∀ (t i : Nat), i < L.length → gDn L 5 t i = fullD (L.getD i default) t
  | 0, i, hi => by
    rw [gDn_zero hi]
    have := (h.2.1.mem (getD_mem hi)).2.1.1
    unfold fullD
    rw [if_pos (by omega)]
  | t + 1, i, hi => by
    have ih := fun k hk => many_done h t k hk
    have hE : ∀ i : Nat, i < L.length → 1 ≤ (L.getD i default).E ∧ 0 ≤ (L.getD i default).R := fun i hi => by have := h.2.1.mem (getD_mem hi); omega
    have hs := gRow_inv (L := L) (m := 5) t
    have act : ∀ k, k < L.length → (readyJ L (gSt L 5 t).done t k = true ↔ (L.getD k default).R ≤ t ∧ (t : Int) < (L.getD k default).R + (L.getD k default).E) := fun k hk => by
      have e := ih k hk
      unfold gDn at e
      unfold readyJ
      rw [decide_eq_true_eq, e]
      have := hE k hk
      unfold fullD
      repeat' split
      all_goals omega
    rw [gDn_succ, ih i hi]
    have key : i ∈ gRow L 5 t ↔ (L.getD i default).R ≤ t ∧ (t : Int) < (L.getD i default).R + (L.getD i default).E := by
      refine ⟨fun hm => (act i hi).1 (hs.rdy i hm), fun ha => ?_⟩
      refine Classical.byContradiction fun hno => ?_
      obtain ⟨h1, _⟩ := hs.full i hi ((act i hi).2 ha) hno
      have hnd : ((i :: gRow L 5 t).map fun k => (L.getD k default).T).Nodup := by
        rw [List.nodup_iff_pairwise_ne, List.pairwise_map]
        have hn2 : (i :: gRow L 5 t).Nodup := List.nodup_cons.2 ⟨hno, hs.nd⟩
        have hall : ∀ k ∈ i :: gRow L 5 t, k < L.length ∧ (L.getD k default).R ≤ t ∧ (t : Int) < (L.getD k default).R + (L.getD k default).E := fun k hk => by
          rcases List.mem_cons.1 hk with rfl | hk
          · exact ⟨hi, ha⟩
          · exact ⟨hs.lt k hk, (act k (hs.lt k hk)).1 (hs.rdy k hk)⟩
        refine List.Pairwise.imp_of_mem (fun {a b} hma hmb hne e => ?_) hn2
        have q1 := hall a hma
        have q2 := hall b hmb
        exact hne (same_task h q1.1 q2.1 e q1.2 q2.2)
      have hle := nodup_le (n := S.length) hnd (fun x hx => by
        obtain ⟨k, hk, rfl⟩ := List.mem_map.1 hx
        have hk2 : k < L.length := by
          rcases List.mem_cons.1 hk with rfl | hk
          · exact hi
          · exact hs.lt k hk
        have := h.2.1.mem (getD_mem hk2)
        exact this.1)
      rw [List.length_map, List.length_cons, h1] at hle
      have := h.1.1
      omega
    have := hE i hi
    by_cases g : i ∈ gRow L 5 t
    · have ga := key.1 g
      rw [if_pos g]
      unfold fullD
      repeat' split
      all_goals omega
    · have ga : ¬ ((L.getD i default).R ≤ t ∧ (t : Int) < (L.getD i default).R + (L.getD i default).E) := fun x => g (key.2 x)
      rw [if_neg g]
      unfold fullD
      repeat' split
      all_goals omega
theorem many_fin (h : jobsLegal S L) {i : Nat} (hi : i < L.length) (he : (L.getD i default).R + (L.getD i default).E ≤ 120) : gI (gFin L 5) i = (L.getD i default).R + (L.getD i default).E := by
  have hE : ∀ j ∈ L, 1 ≤ j.E := fun _ hj => (h.2.1.mem hj).2.2.1
  have hr := h.2.1.mem (getD_mem hi)
  obtain ⟨t, et⟩ := Int.eq_ofNat_of_zero_le (show 0 ≤ (L.getD i default).R + (L.getD i default).E - 1 by omega)
  have d0 := many_done h t i hi
  have d1 := many_done h (t + 1) i hi
  have hin : i ∈ gRow L 5 t := by
    refine Classical.byContradiction fun hno => ?_
    rw [gDn_succ, if_neg hno, d0] at d1
    unfold fullD at d1
    repeat' split at d1
    all_goals omega
  have := gFin_at' (M := 5) hE (by omega) hin (by
    rw [d0]
    unfold fullD
    repeat' split
    all_goals omega)
  omega
end
end Go.Ds
