import Derived.Test.YtnlciginmeebhaaD10
import Derived.Test.YtnlciginmeebhaaSQ
import Derived.Test.YtnlciginmeebhaaS4
import Derived.Test.YtnlciginmeebhaaS8
namespace Go.Proofs.Ytnlciginmeebhaa
open Go.Abs Go.Ds
set_option linter.unusedSimpArgs false
set_option linter.unusedVariables false
set_option maxRecDepth 20000
set_option maxHeartbeats 2000000
theorem SrvAns.data {σ : List AB} {x : AV} {run fin ch : List Int} {sd : List (List Int)} (h : SrvAns σ x run fin ch sd) : x.data = true := by
  obtain ⟨v1, v2, v3, v4, rfl, r1, r2, r3, r4⟩ := h
  simp only [r1.data, r2.data, r3.data, r4.data, not_true_eq_false, not_false_eq_true, decide_true, decide_false, Bool.not_true, Bool.not_false, false_implies, true_implies, and_true, true_and, Bool.false_eq_true, Bool.true_eq_false, implies_true, Bool.not_not, Classical.not_not, go_sem, Int.reduceToNat, List.take_nil, Nat.zero_mul, Nat.reduceEqDiff, Nat.reduceAdd, Nat.reduceLT, Nat.reduceLeDiff, Nat.reduceMul, ↓reduceIte, reduceCtorEq]
theorem srv_lens (S : List Task) (L : List Job) (X : List Srv) (AA : List (List Arr)) (hok : srvRunOk S L X AA) : (srvRun X AA L).length = 120 ∧ (srvFin X AA L).length = L.length ∧ (srvCh X AA L).length = 120 ∧ (srvSd X AA L).length = X.length ∧ ∀ r ∈ srvSd X AA L, r.length ≤ 20 := by
  have hl := (sim_lens (L := L) (pick := srvPick X AA L) (s0 := ss0 X AA) 120).2
  change (srvS X AA L 120).fin.length = L.length ∧ (srvS X AA L 120).run.length = 120 at hl
  have hss := ss_len (L := L) hok.2.2.1 120
  refine ⟨hl.2, hl.1, hss.2.1, hss.1, fun r hr => ?_⟩
  obtain ⟨k, hk, rfl⟩ := List.getElem_of_mem hr
  have hkX : k < X.length := by rw [← hss.1]; exact hk
  have h1 := hss.2.2 k hkX
  have h2 : (srvSd X AA L)[k] = Go.Ds.gR (srvSd X AA L) k := by simp [Go.Ds.gR, List.getD_eq_getElem?_getD, hk]
  rw [h2, show Go.Ds.gR (srvSd X AA L) k = Go.Ds.gR (srvS X AA L 120).st.sd k from rfl, h1]
  exact (arrsOk.at hok.2.2 hkX).1
theorem rep_len (n : Nat) : (rep n [AV.sn]).length = n := by
  induction n with
  | zero => rfl
  | succ n ih => simp only [rep, List.singleton_append, List.length_cons, ih]
theorem srv_either {S : List Task} {L : List Job} {X : List Srv} {AA : List (List Arr)} (hok : srvRunOk S L X AA) : ∀ k (h1 : k < (srvCh X AA L).length) (h3 : k < (srvRun X AA L).length), k < 120 → 0 ≤ (srvCh X AA L)[k] → (srvRun X AA L)[k] = -1 := fun k h1 h3 hk h0 => by
  have e1 := run_at (X := X) (AA := AA) (L := L) hk
  have e2 := ch_at (X := X) (AA := AA) (L := L) hok.2.2.1 120 k (by omega) hk
  rw [if_pos hk] at e2
  change gI (srvCh X AA L) k = _ at e2
  have e3 : gI (srvCh X AA L) k = (srvCh X AA L)[k] := by simp [gI, List.getD_eq_getElem?_getD, h1]
  have e4 : gI (srvRun X AA L) k = (srvRun X AA L)[k] := by simp [gI, List.getD_eq_getElem?_getD, h3]
  rw [← e4, e1, if_neg (by omega)]
theorem laws_FnServerIdle0 (C : List Nat) (hC : ∀ x ∈ C, x < 256) (c : Nat) (hc : C.length ≤ c) : CallWp Try.prog n_laws_FnServerIdle [.sl 0 0 C.length c] [.ro (encByte.row C)] (fun x _ => x = .b true) := by
  refine call_laws_FnServerIdle (by simp) ?_
  simp only [c_laws_FnServerIdle, go_sem, Int.reduceToNat, List.take_nil, Nat.zero_mul, Nat.reduceEqDiff, Nat.reduceAdd, Nat.reduceLT, Nat.reduceLeDiff, Nat.reduceMul, ↓reduceIte, reduceCtorEq]
  refine ⟨fun h => Fin.plain rfl, fun h => ?_⟩
  refine (spec_DrawRunServers0 C hC c).mono ?_
  rintro x σ _ ⟨S, L, X, AA, a, b, d, e, ca, cb, cd, ce, rfl, hSc, hLc, hXc, hA, hS8, hL62, hX3, ⟨hXA, hA4⟩, hAl⟩
  have rS : ∀ τ, Rd encTask (σ ++ τ) (.sl a 0 S.length ca) S := fun τ => Rd.own' (cells_old hSc τ) rfl
  have rL : ∀ τ, Rd encJob (σ ++ τ) (.sl b 0 L.length cb) L := fun τ => Rd.own' (cells_old hLc τ) rfl
  have rX : ∀ τ, Rd encSrv (σ ++ τ) (.sl d 0 X.length cd) X := fun τ => Rd.own' (cells_old hXc τ) rfl
  have rA : ∀ τ, RdA (σ ++ τ) (.sl e 0 AA.length ce) AA := fun τ => hA.app
  have hS0 : Rd encTask σ (.sl a 0 S.length ca) S := Rd.own' hSc rfl
  have hX0 : Rd encSrv σ (.sl d 0 X.length cd) X := Rd.own' hXc rfl
  have hAb : ∀ A ∈ AA, A.length ≤ 1000 := fun A hA => by have := hAl A hA; omega
  simp only [not_true_eq_false, not_false_eq_true, decide_true, decide_false, Bool.not_true, Bool.not_false, false_implies, true_implies, and_true, true_and, Bool.false_eq_true, Bool.true_eq_false, implies_true, Bool.not_not, Classical.not_not, go_sem, Int.reduceToNat, List.take_nil, Nat.zero_mul, Nat.reduceEqDiff, Nat.reduceAdd, Nat.reduceLT, Nat.reduceLeDiff, Nat.reduceMul, ↓reduceIte, reduceCtorEq]
  refine impl_RunServers_ (S := S) (L := L) (X := X) (AA := AA) (by omega) (by omega) (by omega) (by omega) hAb hS0 hLc hX0 hA (fun hno τ => ?_) (fun hok τ x hx => ?_)
  · have rS1 : ∀ ω, Rd encTask ((σ ++ τ) ++ ω) (.sl a 0 S.length ca) S := fun ω => (rS τ).app
    have rL1 : ∀ ω, Rd encJob ((σ ++ τ) ++ ω) (.sl b 0 L.length cb) L := fun ω => (rL τ).app
    have rX1 : ∀ ω, Rd encSrv ((σ ++ τ) ++ ω) (.sl d 0 X.length cd) X := fun ω => (rX τ).app
    have rA1 : ∀ ω, RdA ((σ ++ τ) ++ ω) (.sl e 0 AA.length ce) AA := fun ω => (rA τ).app
    generalize σ ++ τ = H1 at *
    simp only [at_new0, set_new0, not_true_eq_false, not_false_eq_true, decide_true, decide_false, Bool.not_true, Bool.not_false, false_implies, true_implies, and_true, true_and, Bool.false_eq_true, Bool.true_eq_false, implies_true, Bool.not_not, Classical.not_not, go_sem, Int.reduceToNat, List.take_nil, Nat.zero_mul, Nat.reduceEqDiff, Nat.reduceAdd, Nat.reduceLT, Nat.reduceLeDiff, Nat.reduceMul, ↓reduceIte, reduceCtorEq]
    refine spec_RunServers_ (S := S) (L := L) (X := X) (AA := AA) (by omega) (by omega) (by omega) (by omega) hAb (rS1 _) (rL1 _) (rX1 _) (rA1 _) (fun _ ω => ?_) (fun hok => absurd hok hno)
    simp only [List.append_assoc, List.cons_append, List.nil_append, at_new0, not_true_eq_false, not_false_eq_true, decide_true, decide_false, Bool.not_true, Bool.not_false, false_implies, true_implies, and_true, true_and, Bool.false_eq_true, Bool.true_eq_false, implies_true, Bool.not_not, Classical.not_not, go_sem, Int.reduceToNat, List.take_nil, Nat.zero_mul, Nat.reduceEqDiff, Nat.reduceAdd, Nat.reduceLT, Nat.reduceLeDiff, Nat.reduceMul, ↓reduceIte, reduceCtorEq]
    refine laws_sameRun_ (SrvAns.none (by simp; omega)) (SrvAns.none (by simp; omega)) (by simp) (by simp) (by simp) (by simp) (by simp) fun ω2 => ?_
    simp only [List.append_assoc, List.cons_append, List.nil_append, at_new0, not_true_eq_false, not_false_eq_true, decide_true, decide_false, Bool.not_true, Bool.not_false, false_implies, true_implies, and_true, true_and, Bool.false_eq_true, Bool.true_eq_false, implies_true, Bool.not_not, Classical.not_not, go_sem, Int.reduceToNat, List.take_nil, Nat.zero_mul, Nat.reduceEqDiff, Nat.reduceAdd, Nat.reduceLT, Nat.reduceLeDiff, Nat.reduceMul, ↓reduceIte, reduceCtorEq]
    refine ⟨fun _ => laws_alive_ ?_, fun h0 => absurd h0 (by omega)⟩
    simp only [not_true_eq_false, not_false_eq_true, decide_true, decide_false, Bool.not_true, Bool.not_false, false_implies, true_implies, and_true, true_and, Bool.false_eq_true, Bool.true_eq_false, implies_true, Bool.not_not, Classical.not_not, go_sem, Int.reduceToNat, List.take_nil, Nat.zero_mul, Nat.reduceEqDiff, Nat.reduceAdd, Nat.reduceLT, Nat.reduceLeDiff, Nat.reduceMul, ↓reduceIte, reduceCtorEq]
    exact Fin.plain rfl
  · obtain ⟨v1, v2, v3, v4, rfl, r1, r2, r3, r4⟩ := hx.plain
    have rS1 : ∀ ω, Rd encTask ((σ ++ τ) ++ ω) (.sl a 0 S.length ca) S := fun ω => (rS τ).app
    have rL1 : ∀ ω, Rd encJob ((σ ++ τ) ++ ω) (.sl b 0 L.length cb) L := fun ω => (rL τ).app
    have rX1 : ∀ ω, Rd encSrv ((σ ++ τ) ++ ω) (.sl d 0 X.length cd) X := fun ω => (rX τ).app
    have rA1 : ∀ ω, RdA ((σ ++ τ) ++ ω) (.sl e 0 AA.length ce) AA := fun ω => (rA τ).app
    have cL1 : ∀ ω, cellsOf ((σ ++ τ) ++ ω) b = some (encJob.row L) := fun ω => cells_old (cells_old hLc τ) ω
    have hlens := srv_lens S L X AA hok
    have hxp := fun ω => (hx.plain).app (τ := ω)
    clear hx
    generalize σ ++ τ = H1 at *
    simp only [at_new0, set_new0, r1.data, r2.data, r3.data, r4.data, not_true_eq_false, not_false_eq_true, decide_true, decide_false, Bool.not_true, Bool.not_false, false_implies, true_implies, and_true, true_and, Bool.false_eq_true, Bool.true_eq_false, implies_true, Bool.not_not, Classical.not_not, go_sem, Int.reduceToNat, List.take_nil, Nat.zero_mul, Nat.reduceEqDiff, Nat.reduceAdd, Nat.reduceLT, Nat.reduceLeDiff, Nat.reduceMul, ↓reduceIte, reduceCtorEq]
    refine spec_RunServers_ (S := S) (L := L) (X := X) (AA := AA) (by omega) (by omega) (by omega) (by omega) hAb (rS1 _) (rL1 _) (rX1 _) (rA1 _) (fun hno => absurd hok hno) (fun _ ω y hy => ?_)
    simp only [List.append_assoc, List.cons_append, List.nil_append, at_new0, not_true_eq_false, not_false_eq_true, decide_true, decide_false, Bool.not_true, Bool.not_false, false_implies, true_implies, and_true, true_and, Bool.false_eq_true, Bool.true_eq_false, implies_true, Bool.not_not, Classical.not_not, go_sem, Int.reduceToNat, List.take_nil, Nat.zero_mul, Nat.reduceEqDiff, Nat.reduceAdd, Nat.reduceLT, Nat.reduceLeDiff, Nat.reduceMul, ↓reduceIte, reduceCtorEq]
    simp only [List.append_assoc, List.cons_append, List.nil_append] at hy
    refine ⟨by rw [hy.data]; rfl, laws_sameRun_ (hxp _) hy (by omega) (by omega) (by omega) (by omega) (fun r hr => by have := hlens.2.2.2.2 r hr; omega) fun ω2 => ?_⟩
    have hlr := hlens.1
    have hlc := hlens.2.2.1
    have hgo := srv_either hok
    generalize srvRun X AA L = run at *
    generalize srvCh X AA L = ch at *
    rcases r1 with ⟨n1, o1, c1, cs1, rfl, _, hc1, hl1, hw1⟩ | ⟨_, h0, _⟩
    rotate_left
    · rw [h0] at hlr; cases hlr
    rcases r3 with ⟨n3, o3, c3, cs3, rfl, _, hc3, hl3, hw3⟩ | ⟨_, h0, _⟩
    rotate_left
    · rw [h0] at hlc; cases hlc
    simp only [List.append_assoc, List.cons_append, List.nil_append, at_new0, hlr, hlc, not_true_eq_false, not_false_eq_true, decide_true, decide_false, Bool.not_true, Bool.not_false, false_implies, true_implies, and_true, true_and, Bool.false_eq_true, Bool.true_eq_false, implies_true, Bool.not_not, Classical.not_not, go_sem, Int.reduceToNat, List.take_nil, Nat.zero_mul, Nat.reduceEqDiff, Nat.reduceAdd, Nat.reduceLT, Nat.reduceLeDiff, Nat.reduceMul, ↓reduceIte, reduceCtorEq]
    refine ⟨fun h0 => absurd rfl h0, fun _ => ?_⟩
    generalize hω : AB.rw ty_impl_ServerRun [.sl n1 o1 120 c1, v2, .sl n3 o3 120 c3, v4] 4 :: (ω ++ ω2) = ω3
    have h7 : (H1 ++ ω3)[H1.length]? = some (.rw ty_impl_ServerRun [.sl n1 o1 120 c1, v2, .sl n3 o3 120 c3, v4] 4) := by rw [← hω, at_new0]; rfl
    refine loop_count 120 (fun k => ⟨[(3, .sl a 0 S.length ca), (4, .sl b 0 L.length cb), (5, .sl d 0 X.length cd), (7, .p H1.length 0), (8, .i .i64 k)], H1 ++ ω3⟩) (fun _ => True) trivial (Wk.keep (by simp [look_cons])) fun k hkl _ => ?_
    have hc1' := cells_old hc1 ω3
    have hc3' := cells_old hc3 ω3
    by_cases hk : k < 120
    · have hki : (k : Int) < 120 := by omega
      have q1 := rd_at (E := encInt) hl1 hw1 k (by omega) 0 (by decide)
      have q3 := rd_at (E := encInt) hl3 hw3 k (by omega) 0 (by decide)
      simp only [encInt, Nat.mul_one, Nat.add_zero, rd_zero] at q1 q3
      have hg := hgo k (by omega) (by omega) hk
      simp only [l0_laws_FnServerIdle, hki, h7, onC_of hc1', onC_of hc3', q1.2, q3.2, not_true_eq_false, not_false_eq_true, decide_true, decide_false, Bool.not_true, Bool.not_false, false_implies, true_implies, and_true, true_and, Bool.false_eq_true, Bool.true_eq_false, implies_true, Bool.not_not, Classical.not_not, go_sem, Int.reduceToNat, List.take_nil, Nat.zero_mul, Nat.reduceEqDiff, Nat.reduceAdd, Nat.reduceLT, Nat.reduceLeDiff, Nat.reduceMul, ↓reduceIte, reduceCtorEq]
      refine ⟨by omega, q3.1, fun g1 => ⟨by omega, q1.1, fun g2 => absurd g2 (by rw [hg g1]; decide), fun g2 => ⟨by omega, hk, Wk.keep (by simp [look_cons])⟩⟩, fun g1 => ⟨by omega, hk, Wk.keep (by simp [look_cons])⟩⟩
    · have e : k = 120 := by omega
      subst e
      have h120 : ¬ (((120 : Nat) : Int) < 120) := by decide
      simp only [l0_laws_FnServerIdle, h120, List.append_assoc, not_true_eq_false, not_false_eq_true, decide_true, decide_false, Bool.not_true, Bool.not_false, false_implies, true_implies, and_true, true_and, Bool.false_eq_true, Bool.true_eq_false, implies_true, Bool.not_not, Classical.not_not, go_sem, Int.reduceToNat, List.take_nil, Nat.zero_mul, Nat.reduceEqDiff, Nat.reduceAdd, Nat.reduceLT, Nat.reduceLeDiff, Nat.reduceMul, ↓reduceIte, reduceCtorEq]
      have nil : ∃ AA' : List (List Arr), AA'.length = X.length ∧ (∀ k, gAA AA' k = []) ∧ ∀ A ∈ AA', A = [] := ⟨List.replicate X.length [], List.length_replicate, fun k => by
        unfold gAA
        rw [List.getD_eq_getElem?_getD, List.getElem?_replicate]
        split <;> rfl, fun A hA => (List.mem_replicate.1 hA).2⟩
      obtain ⟨AA', hA1, hA2, hA3⟩ := nil
      refine ⟨by omega, ?_⟩
      rw [show AV.sl (H1.length + ω3.length) 0 X.length X.length = .sl (H1.length + ω3.length) 0 AA'.length X.length by rw [hA1]]
      have hok2 : srvRunOk S L X AA' := ⟨hok.1, hok.2.1, hA1, fun A hA => by rw [hA3 A hA]; exact ⟨by simp, fun k hk => absurd hk (Nat.not_lt_zero _)⟩⟩
      have hcr : cellsOf (H1 ++ (ω3 ++ [AB.rw ty_sl_impl_Arrival (rep X.length [AV.sn]) X.length])) (H1.length + ω3.length) = some (rep X.length [AV.sn]) := by
        have : (H1 ++ (ω3 ++ [AB.rw ty_sl_impl_Arrival (rep X.length [AV.sn]) X.length]))[H1.length + ω3.length]? = some (AB.rw ty_sl_impl_Arrival (rep X.length [AV.sn]) X.length) := by rw [at_new, at_new0]; rfl
        simp only [cellsOf, this]
      have rA2 : RdA (H1 ++ (ω3 ++ [AB.rw ty_sl_impl_Arrival (rep X.length [AV.sn]) X.length])) (.sl (H1.length + ω3.length) 0 AA'.length X.length) AA' := by
        refine .inl ⟨_, 0, X.length, _, rfl, hcr, by rw [rep_len, hA1]; omega, fun k hk => ?_⟩
        have hk' : k < (rep X.length [AV.sn]).length := by rw [rep_len]; omega
        have e1 : rd (rep X.length [AV.sn]) (0 + k) = .sn := by
          rw [Nat.zero_add]
          have := rep_sn_mem X.length _ (List.getElem_mem hk')
          simpa [rd, hk'] using this
        rw [e1, hA3 _ (List.getElem_mem hk)]
        exact .inr ⟨rfl, rfl, by simp; omega⟩
      refine impl_RunServers_ (S := S) (L := L) (X := X) (AA := AA') (by omega) (by omega) (by omega) (by omega) (fun A hA => by rw [hA3 A hA]; simp) (rS1 _) (cL1 _) (rX1 _) rA2 (fun hno => absurd hok2 hno) (fun _ ω4 x4 hx4 => ?_)
      obtain ⟨u1, u2, u3, u4, rfl, s1, s2, s3, s4⟩ := hx4.plain
      have s1' := fun ω => s1.app (τ := ω)
      have s2' := fun ω => s2.app (τ := ω)
      have rS4 := fun ω => (rS1 ((ω3 ++ [AB.rw ty_sl_impl_Arrival (rep X.length [AV.sn]) X.length]) ++ (ω4 ++ ω)))
      have rL4 := fun ω => (rL1 ((ω3 ++ [AB.rw ty_sl_impl_Arrival (rep X.length [AV.sn]) X.length]) ++ (ω4 ++ ω)))
      have ass : ∀ ω, H1 ++ (ω3 ++ [AB.rw ty_sl_impl_Arrival (rep X.length [AV.sn]) X.length] ++ (ω4 ++ ω)) = (H1 ++ (ω3 ++ [AB.rw ty_sl_impl_Arrival (rep X.length [AV.sn]) X.length]) ++ ω4) ++ ω := fun ω => by simp only [List.append_assoc]
      simp only [ass] at rS4 rL4
      generalize H1 ++ (ω3 ++ [AB.rw ty_sl_impl_Arrival (rep X.length [AV.sn]) X.length]) ++ ω4 = H6 at *
      simp only [at_new0, set_new0, s1.data, s2.data, s3.data, s4.data, not_true_eq_false, not_false_eq_true, decide_true, decide_false, Bool.not_true, Bool.not_false, false_implies, true_implies, and_true, true_and, Bool.false_eq_true, Bool.true_eq_false, implies_true, Bool.not_not, Classical.not_not, go_sem, Int.reduceToNat, List.take_nil, Nat.zero_mul, Nat.reduceEqDiff, Nat.reduceAdd, Nat.reduceLT, Nat.reduceLeDiff, Nat.reduceMul, ↓reduceIte, reduceCtorEq]
      refine impl_RunEdf_ (S := S) (L := L) (by omega) (by omega) (rS4 _) (rL4 _) (fun hno => absurd hok.1 hno) fun _ e1 e2 => ?_
      have hnr := none_run (X := X) (AA := AA') (L := L) fun k _ => hA2 k
      have hlf := (sim_lens (L := L) (pick := fun _ now done => (edfPick L now done, ())) (s0 := ()) 120).2
      change (edfFin L).length = L.length ∧ (edfRun L).length = 120 at hlf
      simp only [List.append_assoc, List.cons_append, List.nil_append, at_new0, s1.data, s2.data, not_true_eq_false, not_false_eq_true, decide_true, decide_false, Bool.not_true, Bool.not_false, false_implies, true_implies, and_true, true_and, Bool.false_eq_true, Bool.true_eq_false, implies_true, Bool.not_not, Classical.not_not, go_sem, Int.reduceToNat, List.take_nil, Nat.zero_mul, Nat.reduceEqDiff, Nat.reduceAdd, Nat.reduceLT, Nat.reduceLeDiff, Nat.reduceMul, ↓reduceIte, reduceCtorEq]
      have hr1 : srvRun X AA' L = edfRun L := hnr.1
      have hr2 : srvFin X AA' L = edfFin L := hnr.2
      have c1' : cellsOf (H6 ++ [AB.rw ty_impl_ServerRun [u1, u2, u3, u4] 4, AB.rw ty_int (encInt.row (edfRun L)) e1, AB.rw ty_int (encInt.row (edfFin L)) e2]) (H6.length + 1) = some (encInt.row (edfRun L)) := by
        simp only [cellsOf, at_new, go_sem, Int.reduceToNat, List.take_nil, Nat.zero_mul, Nat.reduceEqDiff, Nat.reduceAdd, Nat.reduceLT, Nat.reduceLeDiff, Nat.reduceMul, ↓reduceIte, reduceCtorEq]
      have c2' : cellsOf (H6 ++ [AB.rw ty_impl_ServerRun [u1, u2, u3, u4] 4, AB.rw ty_int (encInt.row (edfRun L)) e1, AB.rw ty_int (encInt.row (edfFin L)) e2]) (H6.length + 1 + 1) = some (encInt.row (edfFin L)) := by
        have := at_new H6 [AB.rw ty_impl_ServerRun [u1, u2, u3, u4] 4, AB.rw ty_int (encInt.row (edfRun L)) e1, AB.rw ty_int (encInt.row (edfFin L)) e2] 2
        change _[H6.length + 1 + 1]? = _ at this
        simp only [cellsOf, this, go_sem, Int.reduceToNat, List.take_nil, Nat.zero_mul, Nat.reduceEqDiff, Nat.reduceAdd, Nat.reduceLT, Nat.reduceLeDiff, Nat.reduceMul, ↓reduceIte, reduceCtorEq]
      refine laws_sameSchedule_ (X1 := srvRun X AA' L) (Y1 := srvFin X AA' L) (X2 := edfRun L) (Y2 := edfFin L) (s1' _) (s2' _) (Rd.own' c1' hlf.2) (Rd.own' c2' hlf.1) (by rw [hr1]; omega) (by rw [hr2]; omega) ?_
      simp only [hr1, hr2, and_self, decide_true, not_true_eq_false, not_false_eq_true, decide_true, decide_false, Bool.not_true, Bool.not_false, false_implies, true_implies, and_true, true_and, Bool.false_eq_true, Bool.true_eq_false, implies_true, Bool.not_not, Classical.not_not, go_sem, Int.reduceToNat, List.take_nil, Nat.zero_mul, Nat.reduceEqDiff, Nat.reduceAdd, Nat.reduceLT, Nat.reduceLeDiff, Nat.reduceMul, ↓reduceIte, reduceCtorEq]
      exact Fin.plain rfl
theorem c_FnServerIdle (C : List Nat) (c : Nat) (hC : ∀ x ∈ C, x < 256) (_ : C.length * 1 ≤ 140737488351232) (hc : C.length ≤ c) :
    CallWp Try.prog n_laws_FnServerIdle [.sl 0 0 C.length c] [.ro (encByte.row C)] (fun x _ => x = .b true) := laws_FnServerIdle0 C hC c hc
end Go.Proofs.Ytnlciginmeebhaa
