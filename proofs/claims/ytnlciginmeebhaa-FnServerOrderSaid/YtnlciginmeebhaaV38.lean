import Derived.Test.YtnlciginmeebhaaV37
namespace Go.Proofs.Ytnlciginmeebhaa
open Go.Abs Go.Ds
set_option linter.unusedSimpArgs false
set_option linter.unusedVariables false
set_option maxRecDepth 20000
set_option maxHeartbeats 2000000
def cntL (ch : List Int) (k : Int) (n : Nat) : Int := sumI (fun i => if gI ch i = k then 1 else 0) n
theorem cntL_bound (ch : List Int) (k : Int) : ∀ n, 0 ≤ cntL ch k n ∧ cntL ch k n ≤ n
  | 0 => ⟨Int.le_refl _, Int.le_refl _⟩
  | n + 1 => by
    have ih := cntL_bound ch k n
    have e : cntL ch k (n + 1) = cntL ch k n + (if gI ch n = k then 1 else 0) := rfl
    rw [e]
    split <;> omega
theorem laws_ticks0 (ch : List Int) (k : Int) (hl : ch.length ≤ 1000000) (c : Nat) : CallWp Try.prog n_laws_ticks [.sl 0 0 ch.length c, .i .i64 k] [.ro (encInt.row ch)] (fun x σ => x = .i .i64 (cntL ch k ch.length) ∧ σ = [.ro (encInt.row ch)]) := by
  refine call_laws_ticks (by simp) ?_
  simp only [c_laws_ticks, not_true_eq_false, not_false_eq_true, decide_true, decide_false, Bool.not_true, Bool.not_false, false_implies, true_implies, and_true, true_and, Bool.false_eq_true, Bool.true_eq_false, implies_true, Bool.not_not, Classical.not_not, go_sem, Int.reduceToNat, List.take_nil, Nat.zero_mul, Nat.reduceEqDiff, Nat.reduceAdd, Nat.reduceLT, Nat.reduceLeDiff, Nat.reduceMul, ↓reduceIte, reduceCtorEq]
  refine loop_count ch.length (fun i => ⟨[(0, .sl 0 0 ch.length c), (1, .i .i64 k), (5, .i .i64 (cntL ch k i)), (6, .i .i64 i)], [.ro (encInt.row ch)]⟩) (fun _ => True) trivial (Wk.keep (by simp [look_cons, cntL, sumI])) fun i hi _ => ?_
  simp only [l0_laws_ticks, not_true_eq_false, not_false_eq_true, decide_true, decide_false, Bool.not_true, Bool.not_false, false_implies, true_implies, and_true, true_and, Bool.false_eq_true, Bool.true_eq_false, implies_true, Bool.not_not, Classical.not_not, go_sem, Int.reduceToNat, List.take_nil, Nat.zero_mul, Nat.reduceEqDiff, Nat.reduceAdd, Nat.reduceLT, Nat.reduceLeDiff, Nat.reduceMul, ↓reduceIte, reduceCtorEq]
  have hb := cntL_bound ch k i
  have e1 : cntL ch k (i + 1) = cntL ch k i + (if gI ch i = k then 1 else 0) := rfl
  refine ⟨fun h => ?_, fun h => ?_⟩
  · have e2 : gI ch i = ch[i] := by simp [gI, List.getD_eq_getElem?_getD, h]
    rw [e2] at e1
    simp only [rdI h, lenI, not_true_eq_false, not_false_eq_true, decide_true, decide_false, Bool.not_true, Bool.not_false, false_implies, true_implies, and_true, true_and, Bool.false_eq_true, Bool.true_eq_false, implies_true, Bool.not_not, Classical.not_not, go_sem, Int.reduceToNat, List.take_nil, Nat.zero_mul, Nat.reduceEqDiff, Nat.reduceAdd, Nat.reduceLT, Nat.reduceLeDiff, Nat.reduceMul, ↓reduceIte, reduceCtorEq]
    refine ⟨h, h, fun g => ⟨by omega, by omega, h, ?_⟩, fun g => ⟨by omega, h, ?_⟩⟩
    · rw [e1, if_pos g]; exact Wk.keep (by simp [look_cons])
    · rw [e1, if_neg g, Int.add_zero]; exact Wk.keep (by simp [look_cons])
  · have e : i = ch.length := by omega
    subst e
    exact Fin.plain ⟨rfl, rfl⟩
theorem laws_ticks_ {ch : List Int} {k : Int} (hl : ch.length ≤ 1000000) {v : AV} {σ : List AB} (h : Rd encInt σ v ch) {K : AV → List AB → Prop} (hk : K (.i .i64 (cntL ch k ch.length)) σ) : CallWp Try.prog n_laws_ticks [v, .i .i64 k] σ K :=
  call_rds _ (rds1 h.r) (fun c => [.sl 0 0 ch.length (c 0), .i .i64 k]) (fun c => laws_ticks0 ch k hl (c 0)) (fun ν c h => ⟨h.1, .inl rfl, trivial⟩) (fun _ => rfl) rfl hk
theorem sumE_le {A : List Arr} (hA : arrLegal A) : ∀ m, m ≤ A.length → 0 ≤ sumE A m ∧ sumE A m ≤ 20 * m
  | 0, _ => ⟨Int.le_refl _, Int.le_refl _⟩
  | n + 1, h => by
    have ih := sumE_le hA n (by omega)
    have := (gA_ok hA (show n < A.length by omega)).2
    have e1 : sumE A (n + 1) = sumE A n + (gA A n).e := rfl
    omega
theorem laws_FnServerOrder0 (C : List Nat) (hC : ∀ x ∈ C, x < 256) (c : Nat) (hc : C.length ≤ c) : CallWp Try.prog n_laws_FnServerOrder [.sl 0 0 C.length c] [.ro (encByte.row C)] (fun x _ => x = .b true) := by
  refine call_laws_FnServerOrder (by simp) ?_
  simp only [c_laws_FnServerOrder, go_sem, Int.reduceToNat, List.take_nil, Nat.zero_mul, Nat.reduceEqDiff, Nat.reduceAdd, Nat.reduceLT, Nat.reduceLeDiff, Nat.reduceMul, ↓reduceIte, reduceCtorEq]
  refine ⟨fun h => Fin.plain rfl, fun h => ?_⟩
  refine (spec_DrawRunServers0 C hC c).mono ?_
  rintro x σ _ ⟨S, L, X, AA, a, b, d, e, ca, cb, cd, ce, rfl, hSc, hLc, hXc, hA, hS8, hL62, hX3, ⟨hXA, hA4⟩, hAl⟩
  have rS : ∀ τ, Rd encTask (σ ++ τ) (.sl a 0 S.length ca) S := fun τ => Rd.own' (cells_old hSc τ) rfl
  have rL : ∀ τ, Rd encJob (σ ++ τ) (.sl b 0 L.length cb) L := fun τ => Rd.own' (cells_old hLc τ) rfl
  have rX : ∀ τ, Rd encSrv (σ ++ τ) (.sl d 0 X.length cd) X := fun τ => Rd.own' (cells_old hXc τ) rfl
  have rA : ∀ τ, RdA (σ ++ τ) (.sl e 0 AA.length ce) AA := fun τ => hA.app
  have hS0 : Rd encTask σ (.sl a 0 S.length ca) S := Rd.own' hSc rfl
  have hX0 : Rd encSrv σ (.sl d 0 X.length cd) X := Rd.own' hXc rfl
  have hAb : ∀ A ∈ AA, A.length ≤ 1000 := fun A hA => by have := hAl A hA; omega
  simp only [not_true_eq_false, not_false_eq_true, decide_true, decide_false, Bool.not_true, Bool.not_false, false_implies, true_implies, and_true, true_and, Bool.false_eq_true, Bool.true_eq_false, implies_true, Bool.not_not, Classical.not_not, go_sem, Int.reduceToNat, List.take_nil, Nat.zero_mul, Nat.reduceEqDiff, Nat.reduceAdd, Nat.reduceLT, Nat.reduceLeDiff, Nat.reduceMul, ↓reduceIte, reduceCtorEq]
  refine impl_RunServers_ (S := S) (L := L) (X := X) (AA := AA) (by omega) (by omega) (by omega) (by omega) hAb hS0 hLc hX0 hA (fun hno τ => ?_) (fun hok τ x hx => ?_)
  · have rS1 : ∀ ω, Rd encTask ((σ ++ τ) ++ ω) (.sl a 0 S.length ca) S := fun ω => (rS τ).app
    have rL1 : ∀ ω, Rd encJob ((σ ++ τ) ++ ω) (.sl b 0 L.length cb) L := fun ω => (rL τ).app
    have rX1 : ∀ ω, Rd encSrv ((σ ++ τ) ++ ω) (.sl d 0 X.length cd) X := fun ω => (rX τ).app
    have rA1 : ∀ ω, RdA ((σ ++ τ) ++ ω) (.sl e 0 AA.length ce) AA := fun ω => (rA τ).app
    generalize σ ++ τ = H1 at *
    simp only [at_new0, set_new0, not_true_eq_false, not_false_eq_true, decide_true, decide_false, Bool.not_true, Bool.not_false, false_implies, true_implies, and_true, true_and, Bool.false_eq_true, Bool.true_eq_false, implies_true, Bool.not_not, Classical.not_not, go_sem, Int.reduceToNat, List.take_nil, Nat.zero_mul, Nat.reduceEqDiff, Nat.reduceAdd, Nat.reduceLT, Nat.reduceLeDiff, Nat.reduceMul, ↓reduceIte, reduceCtorEq]
    refine spec_RunServers_ (S := S) (L := L) (X := X) (AA := AA) (by omega) (by omega) (by omega) (by omega) hAb (rS1 _) (rL1 _) (rX1 _) (rA1 _) (fun _ ω => ?_) (fun hok => absurd hok hno)
    simp only [List.append_assoc, List.cons_append, List.nil_append, at_new0, not_true_eq_false, not_false_eq_true, decide_true, decide_false, Bool.not_true, Bool.not_false, false_implies, true_implies, and_true, true_and, Bool.false_eq_true, Bool.true_eq_false, implies_true, Bool.not_not, Classical.not_not, go_sem, Int.reduceToNat, List.take_nil, Nat.zero_mul, Nat.reduceEqDiff, Nat.reduceAdd, Nat.reduceLT, Nat.reduceLeDiff, Nat.reduceMul, ↓reduceIte, reduceCtorEq]
    refine laws_sameRun_ (SrvAns.none (by simp; omega)) (SrvAns.none (by simp; omega)) (by simp) (by simp) (by simp) (by simp) (by simp) fun ω2 => ?_
    simp only [List.append_assoc, List.cons_append, List.nil_append, at_new0, not_true_eq_false, not_false_eq_true, decide_true, decide_false, Bool.not_true, Bool.not_false, false_implies, true_implies, and_true, true_and, Bool.false_eq_true, Bool.true_eq_false, implies_true, Bool.not_not, Classical.not_not, go_sem, Int.reduceToNat, List.take_nil, Nat.zero_mul, Nat.reduceEqDiff, Nat.reduceAdd, Nat.reduceLT, Nat.reduceLeDiff, Nat.reduceMul, ↓reduceIte, reduceCtorEq]
    refine ⟨fun _ => laws_alive_ ?_, fun h0 => absurd h0 (by omega)⟩
    simp only [not_true_eq_false, not_false_eq_true, decide_true, decide_false, Bool.not_true, Bool.not_false, false_implies, true_implies, and_true, true_and, Bool.false_eq_true, Bool.true_eq_false, implies_true, Bool.not_not, Classical.not_not, go_sem, Int.reduceToNat, List.take_nil, Nat.zero_mul, Nat.reduceEqDiff, Nat.reduceAdd, Nat.reduceLT, Nat.reduceLeDiff, Nat.reduceMul, ↓reduceIte, reduceCtorEq]
    exact Fin.plain rfl
  · obtain ⟨v1, v2, v3, v4, rfl, r1, r2, r3, r4⟩ := hx.plain
    have rS1 : ∀ ω, Rd encTask ((σ ++ τ) ++ ω) (.sl a 0 S.length ca) S := fun ω => (rS τ).app
    have rL1 : ∀ ω, Rd encJob ((σ ++ τ) ++ ω) (.sl b 0 L.length cb) L := fun ω => (rL τ).app
    have rX1 : ∀ ω, Rd encSrv ((σ ++ τ) ++ ω) (.sl d 0 X.length cd) X := fun ω => (rX τ).app
    have rA1 : ∀ ω, RdA ((σ ++ τ) ++ ω) (.sl e 0 AA.length ce) AA := fun ω => (rA τ).app
    have cL1 : ∀ ω, cellsOf ((σ ++ τ) ++ ω) b = some (encJob.row L) := fun ω => cells_old (cells_old hLc τ) ω
    have hlens := srv_lens S L X AA hok
    have hxp := fun ω => (hx.plain).app (τ := ω)
    clear hx
    generalize σ ++ τ = H1 at *
    simp only [at_new0, set_new0, r1.data, r2.data, r3.data, r4.data, not_true_eq_false, not_false_eq_true, decide_true, decide_false, Bool.not_true, Bool.not_false, false_implies, true_implies, and_true, true_and, Bool.false_eq_true, Bool.true_eq_false, implies_true, Bool.not_not, Classical.not_not, go_sem, Int.reduceToNat, List.take_nil, Nat.zero_mul, Nat.reduceEqDiff, Nat.reduceAdd, Nat.reduceLT, Nat.reduceLeDiff, Nat.reduceMul, ↓reduceIte, reduceCtorEq]
    refine spec_RunServers_ (S := S) (L := L) (X := X) (AA := AA) (by omega) (by omega) (by omega) (by omega) hAb (rS1 _) (rL1 _) (rX1 _) (rA1 _) (fun hno => absurd hok hno) (fun _ ω y hy => ?_)
    simp only [List.append_assoc, List.cons_append, List.nil_append, at_new0, not_true_eq_false, not_false_eq_true, decide_true, decide_false, Bool.not_true, Bool.not_false, false_implies, true_implies, and_true, true_and, Bool.false_eq_true, Bool.true_eq_false, implies_true, Bool.not_not, Classical.not_not, go_sem, Int.reduceToNat, List.take_nil, Nat.zero_mul, Nat.reduceEqDiff, Nat.reduceAdd, Nat.reduceLT, Nat.reduceLeDiff, Nat.reduceMul, ↓reduceIte, reduceCtorEq]
    simp only [List.append_assoc, List.cons_append, List.nil_append] at hy
    refine ⟨by rw [hy.data]; rfl, laws_sameRun_ (hxp _) hy (by omega) (by omega) (by omega) (by omega) (fun r hr => by have := hlens.2.2.2.2 r hr; omega) fun ω2 => ?_⟩
    have hlc := hlens.2.2.1
    have r3c := r3
    rcases r3 with ⟨n3, o3, c3, cs3, rfl, _, hc3, hl3, hw3⟩ | ⟨_, h0, _⟩
    rotate_left
    · rw [h0] at hlc; cases hlc
    simp only [List.append_assoc, List.cons_append, List.nil_append, at_new0, hlc, not_true_eq_false, not_false_eq_true, decide_true, decide_false, Bool.not_true, Bool.not_false, false_implies, true_implies, and_true, true_and, Bool.false_eq_true, Bool.true_eq_false, implies_true, Bool.not_not, Classical.not_not, go_sem, Int.reduceToNat, List.take_nil, Nat.zero_mul, Nat.reduceEqDiff, Nat.reduceAdd, Nat.reduceLT, Nat.reduceLeDiff, Nat.reduceMul, ↓reduceIte, reduceCtorEq]
    refine ⟨fun h0 => absurd rfl h0, fun _ => ?_⟩
    generalize hω : AB.rw ty_impl_ServerRun [v1, v2, .sl n3 o3 120 c3, v4] 4 :: (ω ++ ω2) = ω3
    have h7 : (H1 ++ ω3)[H1.length]? = some (.rw ty_impl_ServerRun [v1, v2, .sl n3 o3 120 c3, v4] 4) := by rw [← hω, at_new0]; rfl
    have hAl2 := hok.2.2.1
    obtain ⟨acs, hac, hal, har⟩ : ∃ acs : List AV, cellsOf (H1 ++ ω3) e = some acs ∧ 0 + AA.length ≤ acs.length ∧ ∀ k (h : k < AA.length), Rd encArr (H1 ++ ω3) (rd acs (0 + k)) AA[k] := by
      rcases rA1 ω3 with ⟨n, o, cap, cs, e, h⟩ | ⟨e, _⟩
      · cases e; exact ⟨cs, h⟩
      · cases e
    refine loop_count X.length (fun k => ⟨[(5, .sl d 0 X.length cd), (6, .sl e 0 AA.length ce), (7, .p H1.length 0), (8, .i .i64 k)], H1 ++ ω3⟩) (fun _ => True) trivial (Wk.keep (by simp [look_cons])) fun k hkl _ => ?_
    simp only [l1_laws_FnServerOrder, not_true_eq_false, not_false_eq_true, decide_true, decide_false, Bool.not_true, Bool.not_false, false_implies, true_implies, and_true, true_and, Bool.false_eq_true, Bool.true_eq_false, implies_true, Bool.not_not, Classical.not_not, go_sem, Int.reduceToNat, List.take_nil, Nat.zero_mul, Nat.reduceEqDiff, Nat.reduceAdd, Nat.reduceLT, Nat.reduceLeDiff, Nat.reduceMul, ↓reduceIte, reduceCtorEq]
    refine ⟨fun hk => ?_, fun hk => Fin.plain rfl⟩
    have hkA : k < AA.length := by omega
    have hgA : gAA AA k = AA[k] := by simp [gAA, List.getD_eq_getElem?_getD, hkA]
    have hAk := arrsOk.at hok.2.2 hk
    have hord := ord_inv (L := L) hok.2.1 hok.2.2 hk 120
    have htk := ord_ticks (L := L) hok.2.1 hok.2.2 hk 120
    have hsv := sv_ok (L := L) (AA := AA) hok.2.1 hk 120
    have hatl : (svT X AA L 120 k).at_ ≤ (gAA AA k).length := Nat.le_trans hsv.ac hsv.cl
    have hss := (ss_len (L := L) (X := X) (AA := AA) hok.2.2.1 120).2.2 k hk
    change OrdI _ _ (Go.Ds.gR (srvSd X AA L) k) _ _ at hord
    change (Go.Ds.gR (srvSd X AA L) k).length = _ at hss
    have hcnt : cntL (srvCh X AA L) k (srvCh X AA L).length = cntS X AA L k 120 := by
      rw [hlc]
      refine sumI_congr fun i hi => ?_
      have := ch_at (X := X) (AA := AA) (L := L) hAl2 120 i (by omega) hi
      rw [if_pos hi] at this
      change gI (srvCh X AA L) i = _ at this
      rw [this]
    have hra := har k hkA
    rw [← hgA] at hra
    rcases r4 with ⟨n4, o4, c4, cs4, rfl, hc4, hl4, hr4⟩ | ⟨rfl, h0, _⟩
    rotate_left
    · have := hlens.2.2.2.1; rw [h0] at this; simp at this; omega
    have hk4 : k < (srvSd X AA L).length := by rw [hlens.2.2.2.1]; exact hk
    have hrow := hr4 k hk4
    rw [show (srvSd X AA L)[k] = Go.Ds.gR (srvSd X AA L) k by simp [Go.Ds.gR, List.getD_eq_getElem?_getD, hk4]] at hrow
    generalize Go.Ds.gR (srvSd X AA L) k = row at *
    generalize gAA AA k = A at *
    generalize (svT X AA L 120 k) = sv at *
    have hA20 := hAk.1
    have hsE := fun m (h : m ≤ A.length) => sumE_le hAk m h
    have e0 : sumE A (min 0 sv.at_) = 0 := by rw [Nat.zero_min]; rfl
    have e00 : sumE A 0 = 0 := rfl
    refine loop_count A.length (fun i => ⟨[(5, .sl d 0 X.length cd), (6, .sl e 0 AA.length ce), (7, .p H1.length 0), (8, .i .i64 k), (9, .i .i64 (sumE A (min i sv.at_))), (10, .i .i64 (sumE A i)), (11, .i .i64 i)], H1 ++ ω3⟩) (fun _ => True) trivial (Wk.keep (by simp [look_cons, e0, e00])) fun i hi _ => ?_
    have hc4' := cells_old hc4 ω3
    have har0 : rd acs (0 + k) = rd acs k := by rw [Nat.zero_add]
    rw [har0] at hra
    by_cases hia : i < A.length
    · generalize hva : rd acs k = va at *
      generalize hvr : rd cs4 (o4 + k) = vr at *
      rcases hra with ⟨na, oa, ca', csa, rfl, hna, hca, hla, hwa⟩ | ⟨_, h0, _⟩
      rotate_left
      · rw [h0] at hia; exact absurd hia (Nat.not_lt_zero _)
      rcases hrow with ⟨nr, or_, cr, csr, rfl, hnr, hcr, hlr, hwr⟩ | ⟨_, h0, _⟩
      rotate_left
      · rw [h0] at hss; simp at hss; omega
      have hcr' := cells_old hcr ω3
      have hir : i < row.length := by omega
      have q1 := rd_at (E := encArr) hla hwa i hia 0 (by decide)
      have q2 := rd_at (E := encArr) hla hwa i hia 1 (by decide)
      have q3 := rd_at (E := encInt) hlr hwr i hir 0 (by decide)
      simp only [encArr, encInt, Nat.mul_one, Nat.add_zero, rd_zero, rd_succ] at q1 q2 q3
      have hgai := gA_mem hia
      have hgok := gA_ok hAk hia
      rw [hgai] at hgok
      have hs1 := hsE i (by omega)
      have hs2 := hsE (i + 1) (by omega)
      have es : sumE A (i + 1) = sumE A i + A[i].e := by rw [← hgai]; rfl
      have hgr : gI row i = row[i] := by simp [gI, List.getD_eq_getElem?_getD, hir]
      simp only [l0_laws_FnServerOrder, onC_of hac, hva, h7, onC_of hc4', hvr, onC_of hcr', onC_of hca, q1.2, q2.2, q3.2, hia, hlens.2.2.2.1, hss, ← es, not_true_eq_false, not_false_eq_true, decide_true, decide_false, Bool.not_true, Bool.not_false, false_implies, true_implies, and_true, true_and, Bool.false_eq_true, Bool.true_eq_false, implies_true, Bool.not_not, Classical.not_not, go_sem, Int.reduceToNat, List.take_nil, Nat.zero_mul, Nat.reduceEqDiff, Nat.reduceAdd, Nat.reduceLT, Nat.reduceLeDiff, Nat.reduceMul, ↓reduceIte, reduceCtorEq]
      refine ⟨hkA, by omega, hk, by omega, q3.1, hkA, by omega, q2.1, by omega, ?_⟩
      have hbef := hord.before i
      have haft := hord.after i hia
      rw [hgr] at hbef haft
      rw [hgai] at hbef
      refine seq_join (fun _ : Unit => ⟨[(5, .sl d 0 X.length cd), (6, .sl e 0 AA.length ce), (7, .p H1.length 0), (8, .i .i64 k), (9, .i .i64 (sumE A (min (i + 1) sv.at_))), (10, .i .i64 (sumE A (i + 1))), (11, .i .i64 i), (12, .i .i64 row[i])], H1 ++ ω3⟩) (fun _ => True) ?_ ?_
      · simp only [not_true_eq_false, not_false_eq_true, decide_true, decide_false, Bool.not_true, Bool.not_false, false_implies, true_implies, and_true, true_and, Bool.false_eq_true, Bool.true_eq_false, implies_true, Bool.not_not, Classical.not_not, go_sem, Int.reduceToNat, List.take_nil, Nat.zero_mul, Nat.reduceEqDiff, Nat.reduceAdd, Nat.reduceLT, Nat.reduceLeDiff, Nat.reduceMul, ↓reduceIte, reduceCtorEq]
        refine ⟨fun hf => kJ_intro () trivial (Wk.keep ?_), fun hf => kJ_intro () trivial (Wk.keep ?_)⟩
        · have hlt : i < sv.at_ := by
            apply Classical.byContradiction
            intro h
            have := haft (by omega)
            omega
          have em : min (i + 1) sv.at_ = i + 1 := Nat.min_eq_left (by omega)
          simp [look_cons, em]
        · have hge : sv.at_ ≤ i := by
            apply Classical.byContradiction
            intro h
            have := (hbef (by omega)).1
            omega
          have em : min (i + 1) sv.at_ = min i sv.at_ := by rw [Nat.min_eq_right (by omega), Nat.min_eq_right hge]
          simp [look_cons, em]
      · intro _ _
        by_cases hi0 : 0 < i
        · have hip : i - 1 < row.length := by omega
          have q5 := rd_at (E := encInt) hlr hwr (i - 1) hip 0 (by decide)
          simp only [encInt, Nat.mul_one, Nat.add_zero, rd_zero] at q5
          have hcz : ((i : Int) - 1).toNat = i - 1 := by omega
          have hasc := hord.asc i hi0
          have hbp := hord.before (i - 1)
          have hgp : gI row (i - 1 : Nat) = row[i - 1] := by simp [gI, List.getD_eq_getElem?_getD, hip]
          rw [hgr, hgp] at hasc
          rw [hgp] at hbp
          have hi0' : (0 : Int) < i := by omega
          simp only [onC_of hac, hva, h7, onC_of hc4', hvr, onC_of hcr', onC_of hca, q1.2, q2.2, q3.2, hcz, q5.2, hi0', hia, hlens.2.2.2.1, hss, not_true_eq_false, not_false_eq_true, decide_true, decide_false, Bool.not_true, Bool.not_false, false_implies, true_implies, and_true, true_and, Bool.false_eq_true, Bool.true_eq_false, implies_true, Bool.not_not, Classical.not_not, go_sem, Int.reduceToNat, List.take_nil, Nat.zero_mul, Nat.reduceEqDiff, Nat.reduceAdd, Nat.reduceLT, Nat.reduceLeDiff, Nat.reduceMul, ↓reduceIte, reduceCtorEq]
          have z5 := q5.1
          have z1 := q1.1
          have z2 := q2.1
          by_cases hf : 0 ≤ row[i]
          · have hlt : i < sv.at_ := by
              apply Classical.byContradiction
              intro h
              have := haft (by omega)
              omega
            have hb1 := hbef hlt
            have hb2 := hbp (by omega)
            have hb3 := hasc hlt
            repeat' first
              | omega
              | (exfalso; omega)
              | exact Wk.keep (by simp [look_cons])
              | refine And.intro ?_ ?_
              | intro _
          · repeat' first
              | omega
              | (exfalso; omega)
              | exact Wk.keep (by simp [look_cons])
              | refine And.intro ?_ ?_
              | intro _
        · have hi0' : ¬ (0 : Int) < i := by omega
          simp only [onC_of hac, hva, h7, onC_of hc4', hvr, onC_of hcr', onC_of hca, q1.2, q2.2, q3.2, hi0', hia, hlens.2.2.2.1, hss, not_true_eq_false, not_false_eq_true, decide_true, decide_false, Bool.not_true, Bool.not_false, false_implies, true_implies, and_true, true_and, Bool.false_eq_true, Bool.true_eq_false, implies_true, Bool.not_not, Classical.not_not, go_sem, Int.reduceToNat, List.take_nil, Nat.zero_mul, Nat.reduceEqDiff, Nat.reduceAdd, Nat.reduceLT, Nat.reduceLeDiff, Nat.reduceMul, ↓reduceIte, reduceCtorEq]
          have z1 := q1.1
          have z2 := q2.1
          by_cases hf : 0 ≤ row[i]
          · have hlt : i < sv.at_ := by
              apply Classical.byContradiction
              intro h
              have := haft (by omega)
              omega
            have hb1 := hbef hlt
            repeat' first
              | omega
              | (exfalso; omega)
              | exact Wk.keep (by simp [look_cons])
              | refine And.intro ?_ ?_
              | intro _
          · repeat' first
              | omega
              | (exfalso; omega)
              | exact Wk.keep (by simp [look_cons])
              | refine And.intro ?_ ?_
              | intro _
    · have e : i = A.length := by omega
      subst e
      generalize hva : rd acs k = va at *
      have em : min A.length sv.at_ = sv.at_ := Nat.min_eq_right hatl
      have hs1 := hsE A.length (Nat.le_refl _)
      have hs2 := hsE sv.at_ hatl
      have r3d := r3c
      rw [hlc] at r3d
      rcases hra with ⟨na, oa, ca', csa, rfl, hna, hca, hla, hwa⟩ | ⟨rfl, h0, _⟩
      · simp only [l0_laws_FnServerOrder, onC_of hac, hva, h7, Nat.lt_irrefl, em, not_true_eq_false, not_false_eq_true, decide_true, decide_false, Bool.not_true, Bool.not_false, false_implies, true_implies, and_true, true_and, Bool.false_eq_true, Bool.true_eq_false, implies_true, Bool.not_not, Classical.not_not, go_sem, Int.reduceToNat, List.take_nil, Nat.zero_mul, Nat.reduceEqDiff, Nat.reduceAdd, Nat.reduceLT, Nat.reduceLeDiff, Nat.reduceMul, ↓reduceIte, reduceCtorEq]
        refine ⟨hkA, by omega, laws_ticks_ (ch := srvCh X AA L) (by omega) r3d.app ?_⟩
        rw [hcnt]
        simp only [not_true_eq_false, not_false_eq_true, decide_true, decide_false, Bool.not_true, Bool.not_false, false_implies, true_implies, and_true, true_and, Bool.false_eq_true, Bool.true_eq_false, implies_true, Bool.not_not, Classical.not_not, go_sem, Int.reduceToNat, List.take_nil, Nat.zero_mul, Nat.reduceEqDiff, Nat.reduceAdd, Nat.reduceLT, Nat.reduceLeDiff, Nat.reduceMul, ↓reduceIte, reduceCtorEq]
        repeat' first
          | omega
          | (exfalso; omega)
          | exact Wk.keep (by simp [look_cons])
          | refine And.intro ?_ ?_
          | intro _
      · subst h0
        have em0 : min 0 sv.at_ = sv.at_ := by rw [List.length_nil] at hatl; omega
        rw [List.length_nil] at htk
        simp only [l0_laws_FnServerOrder, onC_of hac, hva, h7, Nat.lt_irrefl, em0, List.length_nil, not_true_eq_false, not_false_eq_true, decide_true, decide_false, Bool.not_true, Bool.not_false, false_implies, true_implies, and_true, true_and, Bool.false_eq_true, Bool.true_eq_false, implies_true, Bool.not_not, Classical.not_not, go_sem, Int.reduceToNat, List.take_nil, Nat.zero_mul, Nat.reduceEqDiff, Nat.reduceAdd, Nat.reduceLT, Nat.reduceLeDiff, Nat.reduceMul, ↓reduceIte, reduceCtorEq]
        refine ⟨hkA, by omega, fun h => absurd h (by omega), fun _ => laws_ticks_ (ch := srvCh X AA L) (by omega) r3d.app ?_⟩
        rw [hcnt]
        simp only [not_true_eq_false, not_false_eq_true, decide_true, decide_false, Bool.not_true, Bool.not_false, false_implies, true_implies, and_true, true_and, Bool.false_eq_true, Bool.true_eq_false, implies_true, Bool.not_not, Classical.not_not, go_sem, Int.reduceToNat, List.take_nil, Nat.zero_mul, Nat.reduceEqDiff, Nat.reduceAdd, Nat.reduceLT, Nat.reduceLeDiff, Nat.reduceMul, ↓reduceIte, reduceCtorEq]
        repeat' first
          | omega
          | (exfalso; omega)
          | exact Wk.keep (by simp [look_cons])
          | refine And.intro ?_ ?_
          | intro _
theorem c_FnServerOrder (C : List Nat) (c : Nat) (hC : ∀ x ∈ C, x < 256) (_ : C.length * 1 ≤ 140737488351232) (hc : C.length ≤ c) :
    CallWp Try.prog n_laws_FnServerOrder [.sl 0 0 C.length c] [.ro (encByte.row C)] (fun x _ => x = .b true) := laws_FnServerOrder0 C hC c hc
end Go.Proofs.Ytnlciginmeebhaa
