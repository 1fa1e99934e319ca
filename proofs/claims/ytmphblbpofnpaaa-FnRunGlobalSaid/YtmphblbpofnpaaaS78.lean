import Derived.Test.YtmphblbpofnpaaaS77
namespace Go.Proofs.Ytmphblbpofnpaaa
open Go.Abs Go.Ds
set_option linter.unusedSimpArgs false
set_option linter.unusedVariables false
set_option maxRecDepth 20000
set_option maxHeartbeats 8000000
def globOk (S : List Task) (L : List Job) (m : Int) : Prop := jobsLegal S L ∧ (1 ≤ m ∧ m ≤ 5)
noncomputable instance (S : List Task) (L : List Job) (m : Int) : Decidable (globOk S L m) := by unfold globOk; infer_instance
def gRows (L : List Job) (m : Nat) : List (List Int) := (List.range 120).map fun k => natsOf (gRow L m k)
def qG (L : List Job) (m t : Nat) : QG := ⟨t, (gSt L m t).done, (gSt L m t).fin, [], (List.range t).map (fun k => natsOf (gRow L m k)), t⟩
def pS (N r f o : Nat) : Nat → Nat
  | 0 => N + 3
  | 1 => N + 2
  | 2 => N + r
  | 3 => N + f
  | 4 => N + o
  | _ => 0
theorem rows_zero (p : Nat → Nat) (R : List (List Int)) : rowsC p R 0 = rep 120 [.sn] := by
  unfold rowsC
  have : ∀ k, rowC p R 0 k = .sn := fun k => if_neg fun h => absurd h.1 (Nat.not_lt_zero _)
  rw [show rowC p R 0 = fun _ => .sn from funext this]
  rfl
theorem gf_start {L : List Job} {j jc M : Nat} {σ τ : List AB} (r f o cap : Nat) (h1 : 4 ≤ r ∧ 4 ≤ f ∧ 4 ≤ o ∧ r ≠ f ∧ r ≠ o ∧ f ≠ o) (e0 : τ[0]? = some (.rw ty_sl_impl_Job [.sl j 0 L.length jc] 1)) (e1 : τ[1]? = some (.rw ty_impl_GlobalRun [.sn, .sn] 2)) (e2 : τ[2]? = some (.rw ty_int (encInt.row (List.replicate L.length 0)) L.length))
    (e3 : τ[3]? = some (.rw ty_impl_machine [.sl j 0 L.length jc, .sl (σ.length + 2) 0 L.length L.length, .i .i64 0] 3)) (er : τ[r]? = some (.rw ty_sl_int (rep 120 [.sn]) 120)) (ef : τ[f]? = some (.rw ty_int (encInt.row (List.replicate L.length (-1))) cap)) (eo : τ[o]? = some (.rw ty_impl_GlobalRun [.sl (σ.length + r) 0 120 120, .sl (σ.length + f) 0 L.length cap] 2)) :
    GF L j jc σ (qG L M 0) (σ ++ τ) (pS σ.length r f o) (fun _ => cap) := by
  refine ⟨⟨fun m hm => List.getElem?_append_left hm, ?_⟩, by rw [at_new0]; exact e0, by rw [at_new]; exact e1, fun k b hk => ?_, fun k k' b b' hk hk' e => ?_⟩
  · have := (List.getElem?_eq_some_iff.1 e1).1
    rw [List.length_append]; omega
  · match k, hk with
    | 0, hk => cases hk; exact ⟨by simp [pS], by simp only [pS]; rw [at_new]; exact e3⟩
    | 1, hk => cases hk; exact ⟨by simp [pS], by simp only [pS]; rw [at_new]; exact e2⟩
    | 2, hk => cases hk; exact ⟨by simp [pS]; omega, by simp only [pS, qG]; rw [at_new, rows_zero]; exact er⟩
    | 3, hk => cases hk; exact ⟨by simp [pS]; omega, by simp only [pS, Nat.mul_one]; rw [at_new]; exact ef⟩
    | 4, hk => cases hk; exact ⟨by simp [pS]; omega, by simp only [pS]; rw [at_new]; exact eo⟩
    | 5, hk => simp [GB, qG] at hk
    | k + 6, hk => simp [GB, qG] at hk
  · have small : ∀ {k b}, GB L j jc (qG L M 0) (pS σ.length r f o) (fun _ => cap) k = some b → k < 5 := fun {k b} hk => by
      match k, hk with
      | 0, _ | 1, _ | 2, _ | 3, _ | 4, _ => decide
      | 5, hk => simp [GB, qG] at hk
      | k + 6, hk => simp [GB, qG] at hk
    have s1 := small hk
    have s2 := small hk'
    have c1 : k = 0 ∨ k = 1 ∨ k = 2 ∨ k = 3 ∨ k = 4 := by omega
    have c2 : k' = 0 ∨ k' = 1 ∨ k' = 2 ∨ k' = 3 ∨ k' = 4 := by omega
    rcases c1 with rfl | rfl | rfl | rfl | rfl <;> rcases c2 with rfl | rfl | rfl | rfl | rfl <;> simp only [pS] at e <;> omega
theorem seq_cut2 {P : Program} {L0 nt : Nat} {a b c : LC} {Q : Exit → St → Prop} {s : St} (R : St → Prop)
    (ha : wpC P L0 nt (.seq a b) (fun e s' => match e with | .normal => R s' | e => Q e s') s) (hb : ∀ s', R s' → wpC P L0 nt c Q s') : wpC P L0 nt (.seq a (.seq b c)) Q s := by
  simp only [wpC] at ha ⊢
  refine wpC_mono (fun e s' h => ?_) ha
  cases e with
  | normal =>
    refine wpC_mono (fun e s' h => ?_) h
    cases e with
    | normal => exact hb s' h
    | _ => exact h
  | _ => exact h
theorem set_same {H : List AB} {n : Nat} {b : AB} (h : H[n]? = some b) : H.set n b = H := by
  apply List.ext_getElem?
  intro i
  rw [List.getElem?_set]
  split
  · rename_i e
    subst e
    rw [if_pos (List.getElem?_eq_some_iff.1 h).1, h]
  · rfl
theorem winI0 (Z : List Int) (h : Nat) : win (encInt.row Z) 0 h = encInt.row (Z.take h) := by
  have := encInt.part Z 0 h
  simpa [encInt] using this
theorem vRow_data (p : Nat → Nat) (t : Nat) (r : List Int) : (vRow p t r).data = true := by unfold vRow; split <;> rfl
theorem vRow_cl (p : Nat → Nat) (t : Nat) (r : List Int) : (vRow p t r).cl = [vRow p t r] := by unfold vRow; split <;> rfl
theorem rows_set {p : Nat → Nat} {R : List (List Int)} {t : Nat} (ht : t < 120) {r : List Int} (hr : gRw R t = r) : spl (rowsC p R t) t [vRow p t r] = rowsC p R (t + 1) := by
  simp only [spl]
  apply List.ext_getElem
  · simp [rowsC]
  · intro i h1 h2
    have hi : i < 120 := by simpa [rowsC] using h2
    rw [List.getElem_set]
    simp only [rowsC, List.getElem_map, List.getElem_range]
    by_cases e : t = i
    · subst e
      rw [if_pos rfl]
      unfold rowC vRow
      rw [hr]
      by_cases h0 : r = []
      · rw [if_pos h0, if_neg fun g => g.2 h0]
      · rw [if_neg h0, if_pos ⟨Nat.lt_succ_self _, h0⟩]
    · rw [if_neg e]
      unfold rowC
      by_cases h3 : i < t
      · have h4 : i < t + 1 := by omega
        simp only [h3, h4, true_and]
      · have h4 : ¬ i < t + 1 := by omega
        simp only [h3, h4, false_and, if_false]
theorem gDn_bd {L : List Job} {m i : Nat} (hi : i < L.length) : ∀ t : Nat, 0 ≤ gDn L m t i ∧ gDn L m t i ≤ t
  | 0 => by have := gDn_zero (m := m) hi; omega
  | t + 1 => by
    have ih := gDn_bd (m := m) hi t
    have := gDn_succ (L := L) (m := m) t i
    split at this <;> omega
theorem vRow_len (p : Nat → Nat) (t : Nat) (o : List Nat) (F : Nat → Prop) (G : Prop) (h : F 0 → G) (hF : F o.length) : onSl (vRow p t (natsOf o)) (fun _ _ n _ => F n) G := by
  unfold vRow
  by_cases h0 : natsOf o = []
  · have : o.length = 0 := by rw [← natsOf_len, h0]; rfl
    rw [if_pos h0]
    rw [this] at hF
    exact h hF
  · rw [if_neg h0, natsOf_len]; exact hF
theorem gRows_len (L : List Job) (m : Nat) : (gRows L m).length = 120 := by simp [gRows]
theorem qG_R (L : List Job) (M k : Nat) (hk : k < 120) : gRw (qG L M 120).R k = natsOf (gRow L M k) := by simp [gRw, qG, List.getD_eq_getElem?_getD, hk]
theorem glob_final {L : List Job} {j jc M : Nat} {σ H : List AB} {p c : Nat → Nat} (hF : GF L j jc σ (qG L M 120) H p c) (b : AB) : GlobAnsN σ.length (H.set (σ.length + 1) b) (.agg [.sl (p 2) 0 120 120, .sl (p 3) 0 L.length (c 3)]) (gRows L M) (gFin L M) := by
  intro σ9 hl9 hs9
  have hL := hF.lay.low (n := σ.length + 1) (by omega) b
  have hat : ∀ i b, GB L j jc (qG L M 120) p c i = some b → σ9[p i]? = some b := fun i b hi => by
    rw [hs9 _ (by have := hL.ge hi; omega)]; exact hL.at hi
  have h0 : 0 < σ9.length := by rw [hl9, List.length_set]; have := hF.base.2; omega
  have hlen := gSt_len L M 120
  refine ⟨_, _, rfl, .inl ⟨p 2, 0, 120, _, by rw [gRows_len], cells_rwG (hat 2 _ rfl), by rw [gRows_len, rowsC_len]; omega, fun k hk => ?_⟩, ?_⟩
  · rw [gRows_len] at hk
    have e1 : (gRows L M)[k]'(by rw [gRows_len]; exact hk) = natsOf (gRow L M k) := by simp [gRows]
    have e2 : rd (rowsC p (qG L M 120).R (qG L M 120).n) (0 + k) = rowC p (qG L M 120).R 120 k := by simp [rowsC, rd, hk, qG]
    rw [e1, e2]
    unfold rowC
    rw [qG_R L M k hk]
    by_cases hn : natsOf (gRow L M k) = []
    · rw [if_neg fun g => g.2 hn, hn]
      exact .inr ⟨rfl, rfl, h0⟩
    · rw [if_pos ⟨hk, hn⟩]
      refine Rd.own (cells_rwG (ty := ty_int) (r := c (k + 6) * 1) (hat (k + 6) _ ?_))
      have : k < (qG L M 120).R.length := by simp [qG, hk]
      simp only [GB, qG_R L M k hk, this, hn, ne_eq, not_false_eq_true, and_self, if_true]
  · have := cells_rwG (hat 3 _ rfl)
    have e : L.length = (gFin L M).length := hlen.2.symm
    rw [e]
    exact Rd.own this
theorem impl_RunGlobal_ {σ : List AB} {S : List Task} {L : List Job} {v : AV} {j jc : Nat} {m : Int} {K : AV → List AB → Prop} (hs : S.length ≤ 1000000) (hl : L.length ≤ 1000) (hS : Rd encTask σ v S) (hj : cellsOf σ j = some (encJob.row L))
    (hn : ¬ globOk S L m → ∀ τ, K (.agg [.sn, .sn]) (σ ++ τ)) (hy : ∀ M : Nat, m = M → globOk S L m → ∀ τ x, GlobAnsN σ.length (σ ++ τ) x (gRows L M) (gFin L M) → K x (σ ++ τ)) :
    CallWp Try.prog n_impl_RunGlobal [v, .sl j 0 L.length jc, .i .i64 m] σ K := by
  have hjR : Rd encJob σ (.sl j 0 L.length jc) L := Rd.own hj
  refine call_impl_RunGlobal (by simp) ?_
  simp only [c_impl_RunGlobal, hS.data, at_new, at_new0, List.append_assoc, List.cons_append, List.nil_append, not_true_eq_false, not_false_eq_true, decide_true, decide_false, Bool.not_true, Bool.not_false, false_implies, true_implies, and_true, true_and, Bool.false_eq_true, Bool.true_eq_false, implies_true, Bool.not_not, Classical.not_not, go_sem, Int.reduceToNat, List.take_nil, Nat.zero_mul, Nat.reduceEqDiff, Nat.reduceAdd, Nat.reduceLT, Nat.reduceLeDiff, Nat.reduceMul, ↓reduceIte, reduceCtorEq]
  refine impl_JobsLegal_ (S := S) (L := L) (by omega) (by omega) hS.app hjR.app ?_
  simp only [at_new, at_new0, set_new, set_new0, List.append_assoc, List.cons_append, List.nil_append, not_true_eq_false, not_false_eq_true, decide_true, decide_false, Bool.not_true, Bool.not_false, false_implies, true_implies, and_true, true_and, Bool.false_eq_true, Bool.true_eq_false, implies_true, Bool.not_not, Classical.not_not, go_sem, Int.reduceToNat, List.take_nil, Nat.zero_mul, Nat.reduceEqDiff, Nat.reduceAdd, Nat.reduceLT, Nat.reduceLeDiff, Nat.reduceMul, ↓reduceIte, reduceCtorEq]
  have no : ¬ globOk S L m → ∀ τ, Fin σ.length (σ ++ τ) (.agg [.sn, .sn]) K := fun h τ => Fin.plain (hn h τ)
  refine ⟨fun h1 => ?_, fun h1 => no (fun h => h1 h.1) _⟩
  refine impl_isCoresG_ m ?_
  simp only [at_new, at_new0, set_new, set_new0, List.append_assoc, List.cons_append, List.nil_append, not_true_eq_false, not_false_eq_true, decide_true, decide_false, Bool.not_true, Bool.not_false, false_implies, true_implies, and_true, true_and, Bool.false_eq_true, Bool.true_eq_false, implies_true, Bool.not_not, Classical.not_not, go_sem, Int.reduceToNat, List.take_nil, Nat.zero_mul, Nat.reduceEqDiff, Nat.reduceAdd, Nat.reduceLT, Nat.reduceLeDiff, Nat.reduceMul, ↓reduceIte, reduceCtorEq]
  refine ⟨fun h2 => no (fun h => h2 h.2) _, fun h2 => ?_⟩
  have hok : globOk S L m := ⟨h1, h2⟩
  obtain ⟨M, rfl⟩ := Int.eq_ofNat_of_zero_le (show 0 ≤ m by omega)
  refine impl_newMachine_ (by omega) ?_
  simp only [at_new, at_new0, set_new, set_new0, List.append_assoc, List.cons_append, List.nil_append, not_true_eq_false, not_false_eq_true, decide_true, decide_false, Bool.not_true, Bool.not_false, false_implies, true_implies, and_true, true_and, Bool.false_eq_true, Bool.true_eq_false, implies_true, Bool.not_not, Classical.not_not, go_sem, Int.reduceToNat, List.take_nil, Nat.zero_mul, Nat.reduceEqDiff, Nat.reduceAdd, Nat.reduceLT, Nat.reduceLeDiff, Nat.reduceMul, ↓reduceIte, reduceCtorEq]
  refine seq_join (fun i : List AB × (Nat → Nat) × (Nat → Nat) => ⟨[(2, .i .i64 M), (4, .p σ.length 0), (6, .p (σ.length + 1) 0), (7, .p (i.2.1 0) 0), (8, .p (i.2.1 4) 0)], i.1⟩) (fun i => GF L j jc σ (qG L M 0) i.1 i.2.1 i.2.2) ?_ ?_
  · simp only [at_new, at_new0, set_new, set_new0, List.append_assoc, List.cons_append, List.nil_append, not_true_eq_false, not_false_eq_true, decide_true, decide_false, Bool.not_true, Bool.not_false, false_implies, true_implies, and_true, true_and, Bool.false_eq_true, Bool.true_eq_false, implies_true, Bool.not_not, Classical.not_not, go_sem, Int.reduceToNat, List.take_nil, Nat.zero_mul, Nat.reduceEqDiff, Nat.reduceAdd, Nat.reduceLT, Nat.reduceLeDiff, Nat.reduceMul, ↓reduceIte, reduceCtorEq]
    have leaf : ∀ (r f o cap : Nat) (T : List (Nat × AV)) (τ : List AB), GF L j jc σ (qG L M 0) (σ ++ τ) (pS σ.length r f o) (fun _ => cap) → (∀ x ∈ [((2 : Nat), AV.i .i64 M), (4, .p σ.length 0), (6, .p (σ.length + 1) 0), (7, .p (σ.length + 3) 0), (8, .p (σ.length + o) 0)], Abs.look T x.1 = x.2) →
        kJ σ.length 112 (fun i : List AB × (Nat → Nat) × (Nat → Nat) => ⟨[(2, .i .i64 M), (4, .p σ.length 0), (6, .p (σ.length + 1) 0), (7, .p (i.2.1 0) 0), (8, .p (i.2.1 4) 0)], i.1⟩) (fun i => GF L j jc σ (qG L M 0) i.1 i.2.1 i.2.2) (retP σ.length [RV.c 6 (some 2)] K) .normal ⟨T, σ ++ τ⟩ :=
      fun r f o cap T τ h g => kJ_intro (σ ++ τ, pS σ.length r f o, fun _ => cap) h (Wk.keep g)
    repeat' first
      | exact leaf 4 5 6 _ _ _ (gf_start 4 5 6 _ (by decide) rfl rfl rfl rfl rfl rfl rfl) (by simp [look_cons])
      | exact leaf 4 6 5 _ _ _ (gf_start 4 6 5 _ (by decide) rfl rfl rfl rfl rfl rfl rfl) (by simp [look_cons])
      | exact leaf 5 4 6 _ _ _ (gf_start 5 4 6 _ (by decide) rfl rfl rfl rfl rfl rfl rfl) (by simp [look_cons])
      | exact leaf 6 4 5 _ _ _ (gf_start 6 4 5 _ (by decide) rfl rfl rfl rfl rfl rfl rfl) (by simp [look_cons])
      | exact leaf 5 6 4 _ _ _ (gf_start 5 6 4 _ (by decide) rfl rfl rfl rfl rfl rfl rfl) (by simp [look_cons])
      | exact leaf 6 5 4 _ _ _ (gf_start 6 5 4 _ (by decide) rfl rfl rfl rfl rfl rfl rfl) (by simp [look_cons])
      | omega
      | (refine impl_none_ L.length (by omega) fun cap => ?_
         simp only [at_new, at_new0, set_new, set_new0, List.append_assoc, List.cons_append, List.nil_append, not_true_eq_false, not_false_eq_true, decide_true, decide_false, Bool.not_true, Bool.not_false, false_implies, true_implies, and_true, true_and, Bool.false_eq_true, Bool.true_eq_false, implies_true, Bool.not_not, Classical.not_not, go_sem, Int.reduceToNat, List.take_nil, Nat.zero_mul, Nat.reduceEqDiff, Nat.reduceAdd, Nat.reduceLT, Nat.reduceLeDiff, Nat.reduceMul, ↓reduceIte, reduceCtorEq])
      | refine ⟨?_, ?_⟩
  rintro ⟨H0, p0, c0⟩ hF0
  simp only [not_true_eq_false, not_false_eq_true, decide_true, decide_false, Bool.not_true, Bool.not_false, false_implies, true_implies, and_true, true_and, Bool.false_eq_true, Bool.true_eq_false, implies_true, Bool.not_not, Classical.not_not, go_sem, Int.reduceToNat, List.take_nil, Nat.zero_mul, Nat.reduceEqDiff, Nat.reduceAdd, Nat.reduceLT, Nat.reduceLeDiff, Nat.reduceMul, ↓reduceIte, reduceCtorEq]
  refine loop_intro (fun i : Nat × List AB × (Nat → Nat) × (Nat → Nat) => ⟨[(2, .i .i64 M), (4, .p σ.length 0), (6, .p (σ.length + 1) 0), (7, .p (i.2.2.1 0) 0), (8, .p (i.2.2.1 4) 0)], i.2.1⟩)
    (fun i => i.1 ≤ 120 ∧ GF L j jc σ (qG L M i.1) i.2.1 i.2.2.1 i.2.2.2) (fun i => 120 - i.1) (0, H0, p0, c0) ⟨Nat.zero_le _, hF0⟩ (Wk.keep (by simp [look_cons])) ?_
  rintro ⟨t, H, p, c⟩ ⟨ht, hF⟩
  simp only at ht hF
  have hbox := hF.box
  have a0 := hF.a0
  have a4 := hF.a4
  simp only [l2_impl_RunGlobal, a0, a4, hbox, not_true_eq_false, not_false_eq_true, decide_true, decide_false, Bool.not_true, Bool.not_false, false_implies, true_implies, and_true, true_and, Bool.false_eq_true, Bool.true_eq_false, implies_true, Bool.not_not, Classical.not_not, go_sem, Int.reduceToNat, List.take_nil, Nat.zero_mul, Nat.reduceEqDiff, Nat.reduceAdd, Nat.reduceLT, Nat.reduceLeDiff, Nat.reduceMul, ↓reduceIte, reduceCtorEq]
  refine ⟨fun hlt => ?_, fun hge => ?_⟩
  · have h60 : L.length ≤ 60 := h1.2.1.1
    have hlen := gSt_len L M t
    have hlt' : t < 120 := by have : ((qG L M t).t : Int) = t := rfl
                              omega
    have hsel := gRow_inv (L := L) (m := M) t
    refine rg_collect (m := M) (by omega) hj hlen.1 hF rfl (by
      intro x hx
      simp only [keepG, List.mem_cons, List.not_mem_nil, or_false, List.cons_append, List.nil_append] at hx
      rcases hx with rfl | rfl | rfl | rfl | rfl | rfl | rfl | rfl <;> simp [look_cons]) fun T1 H1 p1 c1 hT1 hF1 => ?_
    clear hF a0 a4 hbox
    simp only [kB_exit, ↓reduceIte, kS_normal]
    refine seq_cut2 (fun s' => ∃ T2 H2 p2 c2, s' = ⟨T2, H2⟩ ∧ (∀ x ∈ keepG M σ.length p2 (vRow p2 t (natsOf (gRow L M t))), Abs.look T2 x.1 = x.2) ∧ GF L j jc σ { qG L M t with R := (qG L M t).R ++ [natsOf (gRow L M t)] } H2 p2 c2) ?_ ?_
    · have k2 := hT1 (2, .i .i64 M) (by simp [keepG])
      have k4 := hT1 (4, .p σ.length 0) (by simp [keepG])
      have k6 := hT1 (6, .p (σ.length + 1) 0) (by simp [keepG])
      have k7 := hT1 (7, .p (p1 0) 0) (by simp [keepG])
      have k8 := hT1 (8, .p (p1 4) 0) (by simp [keepG])
      have k9 := hT1 (9, vCur p1 c1 (rdyUp L (qG L M t).done (qG L M t).t L.length)) (by simp [keepG])
      simp only at k2 k4 k6 k7 k8 k9
      have hnil : rdyUp L (gSt L M t).done t L.length = [] → gRow L M t = [] := gSel_nil (L := L) (now := t) (done := (gSt L M t).done) (n := M) (by omega)
      have hsort := fun Z => sel_sorted (L := L) (now := t) (done := (gSt L M t).done) (Z := Z)
      have hrl := rdyUp_le (L := L) (done := (gSt L M t).done) (now := t) L.length
      have hra := rdyUp_asc (L := L) (done := (gSt L M t).done) (now := t) L.length
      have hrr := fun x => rdyUp_lt (L := L) (done := (gSt L M t).done) (now := t) (x := x)
      change Abs.look T1 9 = vCur p1 c1 (rdyUp L (gSt L M t).done t L.length) at k9
      change GF L j jc σ { qG L M t with cur := rdyUp L (gSt L M t).done t L.length } H1 p1 c1 at hF1
      generalize rdyUp L (gSt L M t).done t L.length = W at *
      by_cases hW : W = []
      · subst hW
        have ho' := hnil rfl
        have k9' : Abs.look T1 9 = .sn := k9
        have hF2 : GF L j jc σ { qG L M t with R := (qG L M t).R ++ [[]] } H1 p1 c1 := (hF1.row0 (by simp [qG])).noCur
        simp only [k2, k4, k9', not_true_eq_false, not_false_eq_true, decide_true, decide_false, Bool.not_true, Bool.not_false, false_implies, true_implies, and_true, true_and, Bool.false_eq_true, Bool.true_eq_false, implies_true, Bool.not_not, Classical.not_not, go_sem, Int.reduceToNat, List.take_nil, Nat.zero_mul, Nat.reduceEqDiff, Nat.reduceAdd, Nat.reduceLT, Nat.reduceLeDiff, Nat.reduceMul, ↓reduceIte, reduceCtorEq]
        refine sortNil_ ?_
        simp only [k2, k9', not_true_eq_false, not_false_eq_true, decide_true, decide_false, Bool.not_true, Bool.not_false, false_implies, true_implies, and_true, true_and, Bool.false_eq_true, Bool.true_eq_false, implies_true, Bool.not_not, Classical.not_not, go_sem, Int.reduceToNat, List.take_nil, Nat.zero_mul, Nat.reduceEqDiff, Nat.reduceAdd, Nat.reduceLT, Nat.reduceLeDiff, Nat.reduceMul, ↓reduceIte, reduceCtorEq]
        have e0 : (if (0 : Int) < M then (0 : Int) else M) = 0 := if_pos (by omega)
        rw [e0]
        refine ⟨Int.le_refl _, rfl, impl_clone_nil ?_⟩
        simp only [not_true_eq_false, not_false_eq_true, decide_true, decide_false, Bool.not_true, Bool.not_false, false_implies, true_implies, and_true, true_and, Bool.false_eq_true, Bool.true_eq_false, implies_true, Bool.not_not, Classical.not_not, go_sem, Int.reduceToNat, List.take_nil, Nat.zero_mul, Nat.reduceEqDiff, Nat.reduceAdd, Nat.reduceLT, Nat.reduceLeDiff, Nat.reduceMul, ↓reduceIte, reduceCtorEq]
        refine ⟨_, H1, p1, c1, rfl, ?_, by rw [ho']; exact hF2⟩
        rw [ho']
        intro x hx
        simp only [keepG, List.mem_cons, List.not_mem_nil, or_false] at hx
        rcases hx with rfl | rfl | rfl | rfl | rfl | rfl <;> simp [look_cons, k2, k4, k6, k7, k8, vRow, natsOf]
      · have hv : vCur p1 c1 W = .sl (p1 5) 0 W.length (c1 5) := if_neg hW
        rw [hv] at k9
        have a5 := hF1.a5 (q := { qG L M t with cur := W }) hW
        simp only at a5
        simp only [k2, k4, k9, not_true_eq_false, not_false_eq_true, decide_true, decide_false, Bool.not_true, Bool.not_false, false_implies, true_implies, and_true, true_and, Bool.false_eq_true, Bool.true_eq_false, implies_true, Bool.not_not, Classical.not_not, go_sem, Int.reduceToNat, List.take_nil, Nat.zero_mul, Nat.reduceEqDiff, Nat.reduceAdd, Nat.reduceLT, Nat.reduceLeDiff, Nat.reduceMul, ↓reduceIte, reduceCtorEq]
        have hsE := hF1.sort (by omega) hj hW
        have e1 : H1 = H1.set (p1 5) (.rw ty_int (encInt.row W) (c1 5 * 1)) := (set_same a5).symm
        rw [e1]
        refine sortStable_ hsE (by omega) hrr hra fun Z pZ sZ => ?_
        have hZ0 : Z ≠ [] := fun e => hW (by rw [e] at pZ; exact List.nil_perm.1 pZ)
        have hF2 := hF1.setCur hW Z hZ0
        have hlZ : Z.length = W.length := pZ.length_eq
        have hsrt := hsort Z pZ sZ M
        have a6 := hF2.a5 hZ0
        simp only at a6
        generalize H1.set (p1 5) (.rw ty_int (encInt.row Z) (c1 5 * 1)) = H2 at *
        simp only [k2, k9, not_true_eq_false, not_false_eq_true, decide_true, decide_false, Bool.not_true, Bool.not_false, false_implies, true_implies, and_true, true_and, Bool.false_eq_true, Bool.true_eq_false, implies_true, Bool.not_not, Classical.not_not, go_sem, Int.reduceToNat, List.take_nil, Nat.zero_mul, Nat.reduceEqDiff, Nat.reduceAdd, Nat.reduceLT, Nat.reduceLeDiff, Nat.reduceMul, ↓reduceIte, reduceCtorEq]
        obtain ⟨h, hh⟩ : ∃ h : Nat, h = min W.length M := ⟨_, rfl⟩
        have e2 : (if W.length < M then (W.length : Int) else M) = h := by split <;> omega
        have hpos : 0 < W.length := List.length_pos_iff.2 hW
        rw [e2]
        have hrow : Z.take h = natsOf (gRow L M t) := by
          rw [← show Z.take M = natsOf (gRow L M t) from hsrt]
          rcases Nat.lt_or_ge W.length M with g | g
          · rw [List.take_of_length_le (by omega), List.take_of_length_le (by omega)]
          · rw [hh, Nat.min_eq_right g]
        have hne : natsOf (gRow L M t) ≠ [] := fun e => by
          rw [← hrow] at e
          have := congrArg List.length e
          rw [List.length_take, List.length_nil] at this
          omega
        have hlo : (natsOf (gRow L M t)).length = h := by rw [← hrow, List.length_take]; omega
        simp only [Int.toNat_natCast, not_true_eq_false, not_false_eq_true, decide_true, decide_false, Bool.not_true, Bool.not_false, false_implies, true_implies, and_true, true_and, Bool.false_eq_true, Bool.true_eq_false, implies_true, Bool.not_not, Classical.not_not, go_sem, Int.reduceToNat, List.take_nil, Nat.zero_mul, Nat.reduceEqDiff, Nat.reduceAdd, Nat.reduceLT, Nat.reduceLeDiff, Nat.reduceMul, ↓reduceIte, reduceCtorEq]
        refine ⟨.inr (by omega), impl_clone_some (cells_rwG a6) (by rw [lenI]; omega) (by omega) (by omega) fun cap hcap => ?_⟩
        rw [winI0, hrow]
        have hF3 := (hF2.row (by simp [qG]) (natsOf (gRow L M t)) hne [.rw ty_int [] 0] cap).noCur
        rw [Nat.mul_one] at hF3
        have e4 : (qG L M t).R.length = t := by simp [qG]
        simp only [not_true_eq_false, not_false_eq_true, decide_true, decide_false, Bool.not_true, Bool.not_false, false_implies, true_implies, and_true, true_and, Bool.false_eq_true, Bool.true_eq_false, implies_true, Bool.not_not, Classical.not_not, go_sem, Int.reduceToNat, List.take_nil, Nat.zero_mul, Nat.reduceEqDiff, Nat.reduceAdd, Nat.reduceLT, Nat.reduceLeDiff, Nat.reduceMul, ↓reduceIte, reduceCtorEq]
        refine ⟨_, _, _, _, rfl, ?_, hF3⟩
        intro x hx
        simp only [keepG, List.mem_cons, List.not_mem_nil, or_false] at hx
        have hv2 : vRow (up p1 (t + 6) (H2.length + 1)) t (natsOf (gRow L M t)) = .sl (H2.length + 1) 0 h h := by
          rw [vRow, if_neg hne, up_eq, hlo]
        simp only [e4, List.length_cons, List.length_nil, Nat.zero_add, hv2] at hx
        rcases hx with rfl | rfl | rfl | rfl | rfl | rfl <;> simp [look_cons, k2, k4, k6, k7, k8, up]
    · rintro _ ⟨T2, H2, p2, c2, rfl, hT2, hF2⟩
      clear hF1 hT1
      have k2 := hT2 (2, .i .i64 M) (by simp [keepG])
      have k4 := hT2 (4, .p σ.length 0) (by simp [keepG])
      have k6 := hT2 (6, .p (σ.length + 1) 0) (by simp [keepG])
      have k7 := hT2 (7, .p (p2 0) 0) (by simp [keepG])
      have k8 := hT2 (8, .p (p2 4) 0) (by simp [keepG])
      have k9 := hT2 (9, vRow p2 t (natsOf (gRow L M t))) (by simp [keepG])
      simp only at k2 k4 k6 k7 k8 k9
      have hRl : (qG L M t).R.length = t := by simp [qG]
      simp only [k9, not_true_eq_false, not_false_eq_true, decide_true, decide_false, Bool.not_true, Bool.not_false, false_implies, true_implies, and_true, true_and, Bool.false_eq_true, Bool.true_eq_false, implies_true, Bool.not_not, Classical.not_not, go_sem, Int.reduceToNat, List.take_nil, Nat.zero_mul, Nat.reduceEqDiff, Nat.reduceAdd, Nat.reduceLT, Nat.reduceLeDiff, Nat.reduceMul, ↓reduceIte, reduceCtorEq]
      refine vRow_len _ _ _ _ _ (fun h => h) ?_
      have hrow : gRw ((qG L M t).R ++ [natsOf (gRow L M t)]) t = natsOf (gRow L M t) := by
        have := gRw_new (qG L M t).R (natsOf (gRow L M t))
        rwa [hRl] at this
      have hqn : (qG L M t).n = t := rfl
      have hqt : (qG L M t).t = t := rfl
      refine rg_run (m := M) (o := gRow L M t) (s := gSt L M t) (by omega) hj hsel.lt (by have := hsel.len; omega) (fun i hi => by
        have := gDn_bd (m := M) hi t
        unfold gDn at this
        omega) hsel.nd hlen.1 hlen.2 rfl rfl (by simp only [hqt]; omega) (by simp only [List.length_append, hRl, hqn, List.length_cons]; omega) hrow hF2 (by
        intro x hx
        simp only [keepG, hqn, List.mem_cons, List.not_mem_nil, or_false, List.cons_append, List.nil_append] at hx
        rcases hx with rfl | rfl | rfl | rfl | rfl | rfl | rfl | rfl | rfl <;> simp [look_cons, k2, k4, k6, k7, k8, k9]) fun T3 H3 hT3 hF3 => ?_
      simp only [hqn, hqt] at hT3 hF3
      have q2 := hT3 (2, .i .i64 M) (by simp [keepG])
      have q4 := hT3 (4, .p σ.length 0) (by simp [keepG])
      have q6 := hT3 (6, .p (σ.length + 1) 0) (by simp [keepG])
      have q7 := hT3 (7, .p (p2 0) 0) (by simp [keepG])
      have q8 := hT3 (8, .p (p2 4) 0) (by simp [keepG])
      have q9 := hT3 (9, vRow p2 t (natsOf (gRow L M t))) (by simp [keepG])
      simp only at q2 q4 q6 q7 q8 q9
      have b0 := hF3.a0
      have b2 := hF3.a2
      have b4 := hF3.a4
      have hF4 := hF3.setN (t + 1)
      have hF5 := hF4.setT (t + 1)
      have d0 := hF4.a0
      simp only at b0 b2 b4 d0 hF5
      have hrs := rows_set (p := p2) (R := (qG L M t).R ++ [natsOf (gRow L M t)]) hlt' hrow
      simp only [q7, q8, q9, b0, b2, b4, hrs, rowsC_len, vRow_data, vRow_cl, d0, List.length_cons, List.length_nil, not_true_eq_false, not_false_eq_true, decide_true, decide_false, Bool.not_true, Bool.not_false, false_implies, true_implies, and_true, true_and, Bool.false_eq_true, Bool.true_eq_false, implies_true, Bool.not_not, Classical.not_not, go_sem, Int.reduceToNat, List.take_nil, Nat.zero_mul, Nat.reduceEqDiff, Nat.reduceAdd, Nat.reduceLT, Nat.reduceLeDiff, Nat.reduceMul, ↓reduceIte, reduceCtorEq]
      refine ⟨by omega, by omega, by omega, (t + 1, _, p2, c2), ⟨⟨by simp only; omega, ?_⟩, by simp only; omega⟩, Wk.keep ?_⟩
      rotate_left
      · intro x hx
        simp only [List.mem_cons, List.not_mem_nil, or_false] at hx
        rcases hx with rfl | rfl | rfl | rfl | rfl <;> simp [look_cons, q2, q4, q6, q7, q8]
      · have eq : ({ t := t + 1, done := (gDo L t (gRow L M t) (gSt L M t)).done, fin := (gDo L t (gRow L M t) (gSt L M t)).fin, cur := (qG L M t).cur, R := (qG L M t).R ++ [natsOf (gRow L M t)], n := t + 1 } : QG) = qG L M (t + 1) := by
          unfold qG
          rw [List.range_succ, List.map_append]; rfl
        simp only
        rw [← eq]
        exact hF5
  · have ht2 : t = 120 := by have : ((qG L M t).t : Int) = t := rfl
                             omega
    subst ht2
    have hres := hF.res
    have r2 : ∀ b : AB, (H.set (σ.length + 1) b)[σ.length + 1]? = some b := fun b => List.getElem?_set_self (by have := hF.base.2; omega)
    simp only [hres, r2, not_true_eq_false, not_false_eq_true, decide_true, decide_false, Bool.not_true, Bool.not_false, false_implies, true_implies, and_true, true_and, Bool.false_eq_true, Bool.true_eq_false, implies_true, Bool.not_not, Classical.not_not, go_sem, Int.reduceToNat, List.take_nil, Nat.zero_mul, Nat.reduceEqDiff, Nat.reduceAdd, Nat.reduceLT, Nat.reduceLeDiff, Nat.reduceMul, ↓reduceIte, reduceCtorEq]
    refine Fin.plain ?_
    have hb : Base σ (H.set (σ.length + 1) (.rw ty_impl_GlobalRun [.sl (p 2) 0 120 120, .sl (p 3) 0 L.length (c 3)] 2)) 2 := hF.base.set (by omega) _
    rw [← base_split' hb]
    refine hy M rfl hok _ _ ?_
    rw [base_split' hb]
    exact glob_final hF _
end Go.Proofs.Ytmphblbpofnpaaa
