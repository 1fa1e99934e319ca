import Derived.Test.YtfngcejaphhmmaaS88
namespace Go.Proofs.Ytfngcejaphhmmaa
open Go.Abs Go.Ds
set_option linter.unusedSimpArgs false
set_option linter.unusedVariables false
set_option maxRecDepth 20000
set_option maxHeartbeats 2000000
/-- What is left of the choices. -/
structure RunH (P : List Nd) (W : List Int) (c' : Nat) (pre : List Int) (σ : List AB) (p : Nat) : Prop where
  prog : cellsOf σ 0 = some (encNd.row P)
  row : cellsOf σ 1 = some (encInt.row W)
  var : ∃ o, (pre.length < W.length → o = pre.length) ∧ σ[2]? = some (.rw ty_sl_int [.sl 1 o (W.length - pre.length) (c' - pre.length)] 1)
  at2 : p = 2
theorem run_chooser {P : List Nd} {W : List Int} {c' : Nat} (h : nodesOk P) (hw : W.length ≤ 1000) (hc : W.length ≤ c') : Chooser n_impl_RunProgram_1 [] [(2, 0)] P W 2 (RunH P W c') where
  prog := fun pre σ p g => g.prog
  lt := fun pre σ p g => by
    obtain ⟨o, _, hv⟩ := g.var
    have := (List.getElem?_eq_some_iff.1 hv).1
    have := g.at2
    omega
  app := fun pre σ p τ g => ⟨cells_old g.prog τ, cells_old g.row τ, g.var.elim fun o ho => ⟨o, ho.1, at_old ho.2 τ⟩, g.at2⟩
  go := fun pre σ p k many K g hk hm hW hK => by
    have ho := h k hk
    have hn : pre.length < W.length := by
      have := hW.length_le
      rw [List.length_append, List.length_singleton] at this; omega
    have hx : W[pre.length] = wc P k := by
      have := hW.getElem (i := pre.length) (by simp)
      simpa using this.symm
    have hwc : 0 ≤ wc P k ∧ wc P k < many ∧ 2 ≤ many + 1 ∧ many ≤ 5 := by
      unfold ndOk at ho
      rcases hm with ⟨m1, m2⟩ | ⟨m1, m2⟩
      · have := wc_time h hk m1
        omega
      · rw [wc, if_neg (by omega)]; omega
    obtain ⟨o, hoo, hv⟩ := g.var
    have ho2 := hoo hn
    subst ho2
    have h2 := (List.getElem?_eq_some_iff.1 hv).1
    have hvc : cellsOf σ 2 = some [.sl 1 pre.length (W.length - pre.length) (c' - pre.length)] := by simp [cellsOf, hv]
    refine call_impl_RunProgram_1 (by simp [pAV]) ?_
    simp only [c_impl_RunProgram_1, pAV, List.map_nil, List.map_cons, List.nil_append, List.cons_append, List.append_nil, onC_of hvc, onC_of g.row, lenI, rdI hn, hx, not_true_eq_false, not_false_eq_true, decide_true, decide_false, Bool.not_true, Bool.not_false, false_implies, true_implies, and_true, true_and, Bool.false_eq_true, Bool.true_eq_false, implies_true, Bool.not_not, Classical.not_not, go_sem, Int.reduceToNat, List.take_nil, Nat.zero_mul, Nat.reduceEqDiff, Nat.reduceAdd, Nat.reduceLT, Nat.reduceLeDiff, Nat.reduceMul, ↓reduceIte, reduceCtorEq]
    have er : (wc P k).tmod many + many = wc P k + many := by rw [Int.tmod_eq_of_lt (by omega) (by omega)]
    have er2 : (wc P k + many).tmod many = wc P k := by
      rw [Int.tmod_eq_emod_of_nonneg (by omega), Int.add_emod_right]; exact Int.emod_eq_of_lt (by omega) (by omega)
    rw [er, er2]
    have fin : ∀ o', (pre.length + 1 < W.length → o' = pre.length + 1) → K (.i .i64 (wc P k)) (σ.set 2 (.rw ty_sl_int [.sl 1 o' (W.length - pre.length - 1) (c' - pre.length - 1)] 1)) := by
      intro o' ho'
      refine hK _ 2 ⟨?_, ?_, ⟨o', ?_, ?_⟩, rfl⟩ ⟨by simp, .inl g.at2.symm, fun i hi h1 h2 => by rw [List.getElem?_set_ne (by omega)]⟩
      · have := g.prog
        simp only [cellsOf] at this ⊢
        rw [List.getElem?_set_ne (by omega)]; exact this
      · have := g.row
        simp only [cellsOf] at this ⊢
        rw [List.getElem?_set_ne (by omega)]; exact this
      · rw [List.length_append, List.length_singleton]; exact ho'
      · rw [List.getElem?_set_self h2, List.length_append, List.length_singleton, Nat.sub_sub, Nat.sub_sub]
    refine ⟨fun h0 => absurd h0 (by omega), fun _ => ⟨by omega, hn, by omega, by omega, fun hc1 => ?_, fun hc1 => ?_⟩⟩
    · rw [hv]
      simp only [not_true_eq_false, not_false_eq_true, decide_true, decide_false, Bool.not_true, Bool.not_false, false_implies, true_implies, and_true, true_and, Bool.false_eq_true, Bool.true_eq_false, implies_true, Bool.not_not, Classical.not_not, go_sem, Int.reduceToNat, List.take_nil, Nat.zero_mul, Nat.reduceEqDiff, Nat.reduceAdd, Nat.reduceLT, Nat.reduceLeDiff, Nat.reduceMul, ↓reduceIte, reduceCtorEq]
      exact ⟨by omega, by omega, by omega, Fin.plain (fin _ fun _ => rfl)⟩
    · rw [hv]
      simp only [not_true_eq_false, not_false_eq_true, decide_true, decide_false, Bool.not_true, Bool.not_false, false_implies, true_implies, and_true, true_and, Bool.false_eq_true, Bool.true_eq_false, implies_true, Bool.not_not, Classical.not_not, go_sem, Int.reduceToNat, List.take_nil, Nat.zero_mul, Nat.reduceEqDiff, Nat.reduceAdd, Nat.reduceLT, Nat.reduceLeDiff, Nat.reduceMul, ↓reduceIte, reduceCtorEq]
      exact ⟨by omega, by omega, by omega, Fin.plain (fin _ fun _ => by omega)⟩
theorem two_first {A B : AB} {σ : List AB} (h0 : σ[0]? = some A) (h1 : σ[1]? = some B) : σ = [A, B] ++ σ.drop 2 := by
  match σ, h0, h1 with
  | x :: y :: t, h0, h1 =>
    simp only [List.getElem?_cons_zero, List.getElem?_cons_succ, Option.some.injEq] at h0 h1
    subst h0; subst h1; rfl
theorem wch_all_small {P : List Nd} (h : progOk P) : (wch P (P.length - 1)).length ≤ 600 := by
  have h1 := h.1
  have := wch_len h.2.1 (P.length - 1) (P.length - 1) (Nat.le_refl _) (by omega)
  have := h.2.2
  omega
theorem impl_RunProgram0 (P : List Nd) (h : progOk P) (c c' : Nat) : CallWp Try.prog n_impl_RunProgram [.sl 0 0 P.length c, .sl 1 0 (wch P (P.length - 1)).length c'] [.ro (encNd.row P), .ro (encInt.row (wch P (P.length - 1)))] (fun x σ => x = .i .i64 (bound true P) ∧ σ = [.ro (encNd.row P), .ro (encInt.row (wch P (P.length - 1)))]) := by
  refine CallWp.cap ent_impl_RunProgram (k := 1) rfl fun hcap => ?_
  have hw := wch_all_small h
  have h1 := h.1
  refine call_impl_RunProgram (by simp) ?_
  simp only [c_impl_RunProgram, not_true_eq_false, not_false_eq_true, decide_true, decide_false, Bool.not_true, Bool.not_false, false_implies, true_implies, and_true, true_and, Bool.false_eq_true, Bool.true_eq_false, implies_true, Bool.not_not, Classical.not_not, go_sem, Int.reduceToNat, List.take_nil, Nat.zero_mul, Nat.reduceEqDiff, Nat.reduceAdd, Nat.reduceLT, Nat.reduceLeDiff, Nat.reduceMul, ↓reduceIte, reduceCtorEq]
  refine impl_ProgramValid_ (by omega) (Rd.own rfl) ?_
  simp only [h, not_true_eq_false, not_false_eq_true, decide_true, decide_false, Bool.not_true, Bool.not_false, false_implies, true_implies, and_true, true_and, Bool.false_eq_true, Bool.true_eq_false, implies_true, Bool.not_not, Classical.not_not, go_sem, Int.reduceToNat, List.take_nil, Nat.zero_mul, Nat.reduceEqDiff, Nat.reduceAdd, Nat.reduceLT, Nat.reduceLeDiff, Nat.reduceMul, ↓reduceIte, reduceCtorEq]
  refine ⟨by omega, ?_⟩
  have e : ((P.length : Int) - 1) = ((P.length - 1 : Nat) : Int) := by omega
  rw [e]
  refine impl_execute_ (run_chooser (c' := c') h.2.1 (by omega) hcap) h.2.1 h1.2 c (P.length - 1 + 1) (P.length - 1) (by omega) (by omega) h.2.2 [] _ 2 _ ⟨rfl, rfl, ⟨0, fun _ => rfl, rfl⟩, rfl⟩ (by rw [List.nil_append]; exact List.prefix_refl _) fun σ' p' g k1 => ?_
  simp only [not_true_eq_false, not_false_eq_true, decide_true, decide_false, Bool.not_true, Bool.not_false, false_implies, true_implies, and_true, true_and, Bool.false_eq_true, Bool.true_eq_false, implies_true, Bool.not_not, Classical.not_not, go_sem, Int.reduceToNat, List.take_nil, Nat.zero_mul, Nat.reduceEqDiff, Nat.reduceAdd, Nat.reduceLT, Nat.reduceLeDiff, Nat.reduceMul, ↓reduceIte, reduceCtorEq]
  have t0 := k1.2.2 0 (by simp) (by omega) (by omega)
  have t1 := k1.2.2 1 (by simp) (by omega) (by omega)
  exact Fin.same (by rw [bound, if_pos h]) (hσ := two_first t0 t1)
theorem impl_RunProgram_ {P : List Nd} {v u : AV} {σ : List AB} {K : AV → List AB → Prop} (h : progOk P) (hv : Rd encNd σ v P) (hu : Rd encInt σ u (worstOf P)) (hk : K (.i .i64 (bound true P)) σ) : CallWp Try.prog n_impl_RunProgram [v, u] σ K := by
  rw [worstOf, if_pos h] at hu
  exact call_rds _ (rds_cons hv.r (rds1 hu.r)) (fun c => [.sl 0 0 P.length (c 0), .sl 1 0 (wch P (P.length - 1)).length (c 1)]) (fun c => impl_RunProgram0 P h (c 0) (c 1)) (fun ν c h => ⟨h.1, h.2.1, trivial⟩) (fun _ => rfl) rfl hk
end Go.Proofs.Ytfngcejaphhmmaa
