import Derived.Test.YtnlciginmeebhaaD10
import Derived.Test.YtnlciginmeebhaaS60
import Derived.Test.YtnlciginmeebhaaM43
namespace Go.Proofs.Ytnlciginmeebhaa
open Go.Abs Go.Ds
set_option linter.unusedSimpArgs false
set_option linter.unusedVariables false
set_option maxRecDepth 20000
set_option maxHeartbeats 2000000
theorem share_call {σ τ : List AB} {n m d e cd ce : Nat} {x : Srv} {A : List Arr} {K : AV → List AB → Prop} (rX : ∀ τ, Rd encSrv (σ ++ τ) (.sl d 0 [x].length cd) [x]) (rA : ∀ τ, RdA (σ ++ τ) (.sl e 0 [A].length ce) [A])
    (hn : cellsOf (σ ++ τ) n = some []) (hm : cellsOf (σ ++ τ) m = some []) (hl : A.length ≤ 21)
    (hno : ¬ srvRunOk [] [] [x] [A] → ∀ ω, K (.agg [.sn, .sn, .sn, .sn]) ((σ ++ τ) ++ ω))
    (hy : srvRunOk [] [] [x] [A] → ∀ ω v1 v2 v3 v4, SrvAnsN (σ ++ τ).length ((σ ++ τ) ++ ω) (.agg [v1, v2, v3, v4]) (srvRun [x] [A] []) (srvFin [x] [A] []) (srvCh [x] [A] []) (srvSd [x] [A] []) → K (.agg [v1, v2, v3, v4]) ((σ ++ τ) ++ ω)) :
    CallWp Try.prog n_impl_RunServers [.sl n 0 0 0, .sl m 0 0 0, .sl d 0 1 cd, .sl e 0 1 ce] (σ ++ τ) K := by
  refine impl_RunServers_ (S := []) (L := []) (X := [x]) (AA := [A]) (v := .sl n 0 0 0) (by simp) (by simp) (by simp) (by simp) ?_ (Rd.own (L := []) hn) hm (rX τ) (rA τ) hno fun hok ω y h => ?_
  · intro B hB
    rw [List.mem_singleton.1 hB]; omega
  · obtain ⟨v1, v2, v3, v4, rfl, _⟩ := h.plain
    exact hy hok ω v1 v2 v3 v4 h
def shT (d e cd ce nX nA : Nat) (i : List AB × Nat) : St := ⟨[(5, .sl d 0 (nX + 1) cd), (6, .sl e 0 (nA + 1) ce), (7, .p i.2 0)], i.1⟩
def shJ (x : Srv) (X : List Srv) (A : List Arr) (AA : List (List Arr)) (d e ce : Nat) (i : List AB × Nat) : Prop := ∃ v1 v2 v3 v4, cellsOf i.1 i.2 = some [v1, v2, v3, v4] ∧ cellsOf i.1 d = some (encSrv.row (x :: X)) ∧ RdA i.1 (.sl e 0 (AA.length + 1) ce) (A :: AA) ∧
          ((¬ srvRunOk [] [] [x] [A] ∧ v1 = .sn ∧ v2 = .sn ∧ v3 = .sn ∧ v4 = .sn) ∨ (srvRunOk [] [] [x] [A] ∧ SrvAns i.1 (.agg [v1, v2, v3, v4]) (srvRun [x] [A] []) (srvFin [x] [A] []) (srvCh [x] [A] []) (srvSd [x] [A] [])))
theorem share_join {L0 nt : Nat} {T : List (Nat × AV)} {σ1 : List AB} {Q : Exit → St → Prop} {x : Srv} {X : List Srv} {A : List Arr} {AA : List (List Arr)} {d e cd ce n7 : Nat} (h7 : Go.Abs.look T 7 = .p n7 0) (h5 : Go.Abs.look T 5 = .sl d 0 (X.length + 1) cd) (h6 : Go.Abs.look T 6 = .sl e 0 (AA.length + 1) ce)
    (h : shJ x X A AA d e ce (σ1, n7)) : kJ L0 nt (shT d e cd ce X.length AA.length) (shJ x X A AA d e ce) Q Exit.normal ⟨T, σ1⟩ := by
  refine kJ_intro (σ1, n7) h (Wk.keep ?_)
  intro p hp
  simp only [shT, List.mem_cons, List.not_mem_nil, or_false] at hp
  rcases hp with rfl | rfl | rfl
  · exact h5
  · exact h6
  · exact h7
theorem laws_FnServerShare0 (C : List Nat) (hC : ∀ x ∈ C, x < 256) (c : Nat) (hc : C.length ≤ c) : CallWp Try.prog n_laws_FnServerShare [.sl 0 0 C.length c] [.ro (encByte.row C)] (fun x _ => x = .b true) := by
  refine call_laws_FnServerShare (by simp) ?_
  simp only [c_laws_FnServerShare, go_sem, Int.reduceToNat, List.take_nil, Nat.zero_mul, Nat.reduceEqDiff, Nat.reduceAdd, Nat.reduceLT, Nat.reduceLeDiff, Nat.reduceMul, ↓reduceIte, reduceCtorEq]
  refine ⟨fun h => Fin.plain rfl, fun h => ?_⟩
  refine (spec_DrawRunServers0 C hC c).mono ?_
  rintro x σ _ ⟨S, L, X, AA, a, b, d, e, ca, cb, cd, ce, rfl, hSc, hLc, hXc, hA, hS8, hL62, hX3, ⟨hXA, hA4⟩, hAl⟩
  simp only [go_sem, Int.reduceToNat, List.take_nil, Nat.zero_mul, Nat.reduceEqDiff, Nat.reduceAdd, Nat.reduceLT, Nat.reduceLeDiff, Nat.reduceMul, ↓reduceIte, reduceCtorEq]
  cases X with
  | nil =>
    simp only [List.length_nil, not_true_eq_false, not_false_eq_true, decide_true, decide_false, Bool.not_true, Bool.not_false, false_implies, true_implies, and_true, true_and, Bool.false_eq_true, Bool.true_eq_false, implies_true, Bool.not_not, Classical.not_not, go_sem, Int.reduceToNat, List.take_nil, Nat.zero_mul, Nat.reduceEqDiff, Nat.reduceAdd, Nat.reduceLT, Nat.reduceLeDiff, Nat.reduceMul, ↓reduceIte, reduceCtorEq]
    refine ⟨fun h0 => absurd rfl h0, fun _ => laws_alive_ ?_⟩
    simp only [not_true_eq_false, not_false_eq_true, decide_true, decide_false, Bool.not_true, Bool.not_false, false_implies, true_implies, and_true, true_and, Bool.false_eq_true, Bool.true_eq_false, implies_true, Bool.not_not, Classical.not_not, go_sem, Int.reduceToNat, List.take_nil, Nat.zero_mul, Nat.reduceEqDiff, Nat.reduceAdd, Nat.reduceLT, Nat.reduceLeDiff, Nat.reduceMul, ↓reduceIte, reduceCtorEq]
    exact Fin.plain rfl
  | cons x X =>
    cases AA with
    | nil => simp at hXA
    | cons A AA =>
      simp only [List.length_cons, not_true_eq_false, not_false_eq_true, decide_true, decide_false, Bool.not_true, Bool.not_false, false_implies, true_implies, and_true, true_and, Bool.false_eq_true, Bool.true_eq_false, implies_true, Bool.not_not, Classical.not_not, go_sem, Int.reduceToNat, List.take_nil, Nat.zero_mul, Nat.reduceEqDiff, Nat.reduceAdd, Nat.reduceLT, Nat.reduceLeDiff, Nat.reduceMul, ↓reduceIte, reduceCtorEq]
      refine ⟨fun _ => ⟨fun h0 => absurd h0 (by omega), fun _ => ?_⟩, fun h0 => absurd h0 (by omega)⟩
      have hX1 : cellsOf σ d = some (encSrv.row (x :: X)) := hXc
      have rX : ∀ τ, Rd encSrv (σ ++ τ) (.sl d 0 [x].length cd) [x] := fun τ => by
        have h1 := cells_old hX1 τ
        refine .inl ⟨d, 0, cd, _, rfl, cells_lt h1, h1, ?_, ?_⟩
        · rw [lenSv]; simp [encSrv]; omega
        · rfl
      have rA : ∀ τ, RdA (σ ++ τ) (.sl e 0 [A].length ce) [A] := fun τ => by
        rcases (hA.app (τ := τ)) with ⟨n, o, cap, cs, h0, h1, h2, h3⟩ | ⟨h0, _⟩
        · cases h0
          refine .inl ⟨e, 0, ce, cs, rfl, h1, by simp at h2 ⊢; omega, fun k hk => ?_⟩
          have := h3 0 (by simp)
          simp only [List.length_cons, List.length_nil] at hk
          have hk0 : k = 0 := by omega
          subst hk0
          exact this
        · cases h0
      refine seq_join (shT d e cd ce X.length AA.length) (shJ x X A AA d e ce) ?_ ?_
      · simp only [List.append_assoc, List.cons_append, List.nil_append, not_true_eq_false, not_false_eq_true, decide_true, decide_false, Bool.not_true, Bool.not_false, false_implies, true_implies, and_true, true_and, Bool.false_eq_true, Bool.true_eq_false, implies_true, Bool.not_not, Classical.not_not, go_sem, Int.reduceToNat, List.take_nil, Nat.zero_mul, Nat.reduceEqDiff, Nat.reduceAdd, Nat.reduceLT, Nat.reduceLeDiff, Nat.reduceMul, ↓reduceIte, reduceCtorEq]
        refine ⟨by omega, .inr trivial, by omega, .inr trivial, ?_⟩
        have hAA : ∀ τ, RdA (σ ++ τ) (.sl e 0 (AA.length + 1) ce) (A :: AA) := fun τ => hA.app
        have hA21 : A.length ≤ 21 := hAl A (by simp)
        repeat' first
          | (refine share_call (σ := σ) rX rA (by simp only [cellsOf, at_new0, at_new, go_sem, Int.reduceToNat, List.take_nil, Nat.zero_mul, Nat.reduceEqDiff, Nat.reduceAdd, Nat.reduceLT, Nat.reduceLeDiff, Nat.reduceMul, ↓reduceIte, reduceCtorEq]) (by simp only [cellsOf, at_new0, at_new, go_sem, Int.reduceToNat, List.take_nil, Nat.zero_mul, Nat.reduceEqDiff, Nat.reduceAdd, Nat.reduceLT, Nat.reduceLeDiff, Nat.reduceMul, ↓reduceIte, reduceCtorEq]) hA21 (fun hno τ => ?_) (fun hok τ v1 v2 v3 v4 hy => ?_)
             rotate_left
             · simp only [List.append_assoc, List.cons_append, List.nil_append, List.length_append, List.length_cons, at_new0, at_new, set_new, set_new0, not_true_eq_false, not_false_eq_true, decide_true, decide_false, Bool.not_true, Bool.not_false, false_implies, true_implies, and_true, true_and, Bool.false_eq_true, Bool.true_eq_false, implies_true, Bool.not_not, Classical.not_not, go_sem, Int.reduceToNat, List.take_nil, Nat.zero_mul, Nat.reduceEqDiff, Nat.reduceAdd, Nat.reduceLT, Nat.reduceLeDiff, Nat.reduceMul, ↓reduceIte, reduceCtorEq]
               refine share_join rfl rfl rfl ⟨v1, v2, v3, v4, ?hc, cells_old hX1 _, hAA _, .inr ⟨hok, ?hs⟩⟩
               case hc => simp [cellsOf, at_new]
               case hs =>
                 first
                   | (have h2 := hy.plain.app (τ := [.rw ty_impl_ServerRun [v1, v2, v3, v4] 4]); simp only [List.append_assoc, List.cons_append, List.nil_append] at h2; exact h2)
                   | (have h2 := hy.set (n := σ.length) (by simp) (.rw ty_impl_ServerRun [v1, v2, v3, v4] 4); simp only [List.append_assoc, List.cons_append, List.nil_append, set_new, set_new0, go_sem, Int.reduceToNat, List.take_nil, Nat.zero_mul, Nat.reduceEqDiff, Nat.reduceAdd, Nat.reduceLT, Nat.reduceLeDiff, Nat.reduceMul, ↓reduceIte, reduceCtorEq] at h2; exact h2)
                   | (have h2 := hy.set (n := σ.length + 1) (by simp) (.rw ty_impl_ServerRun [v1, v2, v3, v4] 4); simp only [List.append_assoc, List.cons_append, List.nil_append, set_new, set_new0, go_sem, Int.reduceToNat, List.take_nil, Nat.zero_mul, Nat.reduceEqDiff, Nat.reduceAdd, Nat.reduceLT, Nat.reduceLeDiff, Nat.reduceMul, ↓reduceIte, reduceCtorEq] at h2; exact h2)
                   | (have h2 := hy.set (n := σ.length + 2) (by simp) (.rw ty_impl_ServerRun [v1, v2, v3, v4] 4); simp only [List.append_assoc, List.cons_append, List.nil_append, set_new, set_new0, go_sem, Int.reduceToNat, List.take_nil, Nat.zero_mul, Nat.reduceEqDiff, Nat.reduceAdd, Nat.reduceLT, Nat.reduceLeDiff, Nat.reduceMul, ↓reduceIte, reduceCtorEq] at h2; exact h2)
             · simp only [List.append_assoc, List.cons_append, List.nil_append, List.length_append, List.length_cons, at_new0, at_new, set_new, set_new0, not_true_eq_false, not_false_eq_true, decide_true, decide_false, Bool.not_true, Bool.not_false, false_implies, true_implies, and_true, true_and, Bool.false_eq_true, Bool.true_eq_false, implies_true, Bool.not_not, Classical.not_not, go_sem, Int.reduceToNat, List.take_nil, Nat.zero_mul, Nat.reduceEqDiff, Nat.reduceAdd, Nat.reduceLT, Nat.reduceLeDiff, Nat.reduceMul, ↓reduceIte, reduceCtorEq]
               refine share_join rfl rfl rfl ⟨.sn, .sn, .sn, .sn, ?hc, cells_old hX1 _, hAA _, .inl ⟨hno, rfl, rfl, rfl, rfl⟩⟩
               case hc => simp [cellsOf, at_new])
          | exact ent_impl_RunServers
          | refine And.intro ?_ ?_
      · rintro ⟨σ1, n7⟩ ⟨v1, v2, v3, v4, h7, h8, h9, h10⟩
        simp only at h7 h8 h9 h10
        have rX1 : Rd encSrv σ1 (.sl d 0 [x].length cd) [x] := by
          refine .inl ⟨d, 0, cd, _, rfl, cells_lt h8, h8, ?_, rfl⟩
          rw [lenSv]; simp [encSrv]; omega
        have hA21 : A.length ≤ 21 := hAl A (by simp)
        obtain ⟨cs, hcs, hcl, hcr⟩ : ∃ cs, cellsOf σ1 e = some cs ∧ 1 ≤ cs.length ∧ Rd encArr σ1 (rd cs 0) A := by
          rcases h9 with ⟨n, o, cap, cs, h0, h1, h2, h3⟩ | ⟨h0, _⟩
          · cases h0
            exact ⟨cs, h1, by simp at h2; omega, h3 0 (by simp)⟩
          · cases h0
        generalize hva : rd cs 0 = va at hcr
        have hvd := hcr.data
        rcases h10 with ⟨hno, rfl, rfl, rfl, rfl⟩ | ⟨hok, w1, w2, w3, w4, hw, r1, r2, r3, r4⟩
        · simp only [shT, onC_of h7, not_true_eq_false, not_false_eq_true, decide_true, decide_false, Bool.not_true, Bool.not_false, false_implies, true_implies, and_true, true_and, Bool.false_eq_true, Bool.true_eq_false, implies_true, Bool.not_not, Classical.not_not, go_sem, Int.reduceToNat, List.take_nil, Nat.zero_mul, Nat.reduceEqDiff, Nat.reduceAdd, Nat.reduceLT, Nat.reduceLeDiff, Nat.reduceMul, ↓reduceIte, reduceCtorEq]
          refine ⟨fun _ => ⟨by omega, .inr trivial, spec_ServersValid_ (by simp) rX1 ?_⟩, fun h0 => absurd h0 (by omega)⟩
          simp only [not_true_eq_false, not_false_eq_true, decide_true, decide_false, Bool.not_true, Bool.not_false, false_implies, true_implies, and_true, true_and, Bool.false_eq_true, Bool.true_eq_false, implies_true, Bool.not_not, Classical.not_not, go_sem, Int.reduceToNat, List.take_nil, Nat.zero_mul, Nat.reduceEqDiff, Nat.reduceAdd, Nat.reduceLT, Nat.reduceLeDiff, Nat.reduceMul, ↓reduceIte, reduceCtorEq]
          refine ⟨fun hv => ⟨by omega, ?_⟩, fun hv => laws_alive_ ?_⟩
          · rw [onC_of hcs, hva]
            refine ⟨by omega, hvd, spec_ArrivalsLegal_ (by omega) hcr ?_⟩
            have hna : ¬ arrLegal A := fun h0 => hno ⟨⟨⟨by simp, by simp⟩, by simp [orderedP], by simp [spacedP]⟩, hv, by simp, by simpa using h0⟩
            simp only [hna, not_true_eq_false, not_false_eq_true, decide_true, decide_false, Bool.not_true, Bool.not_false, false_implies, true_implies, and_true, true_and, Bool.false_eq_true, Bool.true_eq_false, implies_true, Bool.not_not, Classical.not_not, go_sem, Int.reduceToNat, List.take_nil, Nat.zero_mul, Nat.reduceEqDiff, Nat.reduceAdd, Nat.reduceLT, Nat.reduceLeDiff, Nat.reduceMul, ↓reduceIte, reduceCtorEq]
            refine laws_alive_ ?_
            simp only [not_true_eq_false, not_false_eq_true, decide_true, decide_false, Bool.not_true, Bool.not_false, false_implies, true_implies, and_true, true_and, Bool.false_eq_true, Bool.true_eq_false, implies_true, Bool.not_not, Classical.not_not, go_sem, Int.reduceToNat, List.take_nil, Nat.zero_mul, Nat.reduceEqDiff, Nat.reduceAdd, Nat.reduceLT, Nat.reduceLeDiff, Nat.reduceMul, ↓reduceIte, reduceCtorEq]
            exact Fin.plain rfl
          · simp only [not_true_eq_false, not_false_eq_true, decide_true, decide_false, Bool.not_true, Bool.not_false, false_implies, true_implies, and_true, true_and, Bool.false_eq_true, Bool.true_eq_false, implies_true, Bool.not_not, Classical.not_not, go_sem, Int.reduceToNat, List.take_nil, Nat.zero_mul, Nat.reduceEqDiff, Nat.reduceAdd, Nat.reduceLT, Nat.reduceLeDiff, Nat.reduceMul, ↓reduceIte, reduceCtorEq]
            exact Fin.plain rfl
        · injection hw with hw
          simp only [List.cons.injEq, and_true] at hw
          obtain ⟨rfl, rfl, rfl, rfl⟩ := hw
          have hx : x.ok := hok.2.1.2 x (by simp)
          have hAl1 : arrLegal A := hok.2.2.2 A (by simp)
          have hss := ss_len (X := [x]) (AA := [A]) (L := []) rfl 120
          have hch : (srvCh [x] [A] []).length = 120 := hss.2.1
          have hsd1 : (srvSd [x] [A] []).length = 1 := hss.1
          have hsdr : (Go.Ds.gR (srvSd [x] [A] []) 0).length = A.length := hss.2.2 0 (by simp)
          have hsh := fun i (hi : i < A.length) => share_all (i := i) hx hAl1 hi
          generalize srvSd [x] [A] [] = sd at *
          generalize srvCh [x] [A] [] = ch at *
          match sd, hsd1 with
          | [row], _ =>
          rcases r3 with ⟨n3, o3, c3, cs3, rfl, _⟩ | ⟨_, h0, _⟩
          rotate_left
          · rw [h0] at hch; cases hch
          rcases r4 with ⟨n4, o4, c4, cs4, rfl, hc4, hl4, hr4⟩ | ⟨_, h0, _⟩
          rotate_left
          · cases h0
          have hr := hr4 0 (by simp)
          rw [Nat.add_zero] at hr
          simp only [List.getElem_cons_zero] at hr
          simp only [shT, onC_of h7, hch, not_true_eq_false, not_false_eq_true, decide_true, decide_false, Bool.not_true, Bool.not_false, false_implies, true_implies, and_true, true_and, Bool.false_eq_true, Bool.true_eq_false, implies_true, Bool.not_not, Classical.not_not, go_sem, Int.reduceToNat, List.take_nil, Nat.zero_mul, Nat.reduceEqDiff, Nat.reduceAdd, Nat.reduceLT, Nat.reduceLeDiff, Nat.reduceMul, ↓reduceIte, reduceCtorEq]
          refine ⟨fun h0 => absurd rfl h0, fun _ => ?_⟩
          refine loop_count A.length (fun k => ⟨[(6, .sl e 0 (AA.length + 1) ce), (7, .p n7 0), (8, .i .i64 (finB A k)), (9, .i .i64 k)], σ1⟩) (fun k => 0 ≤ finB A k ∧ finB A k ≤ 119 + 20 * k) ⟨Int.le_refl _, by change (0 : Int) ≤ _; omega⟩ (Wk.keep (by
            intro p hp
            simp only [List.mem_cons, List.not_mem_nil, or_false] at hp
            rcases hp with rfl | rfl | rfl | rfl <;> rfl)) fun k hk hJ => ?_
          rcases hcr with ⟨na, oa, ca', csa, rfl, hna, hca, hla, hwa⟩ | ⟨rfl, rfl, _⟩
          · simp only [l0_laws_FnServerShare, onC_of hcs, hva, hvd, onC_of hca, not_true_eq_false, not_false_eq_true, decide_true, decide_false, Bool.not_true, Bool.not_false, false_implies, true_implies, and_true, true_and, Bool.false_eq_true, Bool.true_eq_false, implies_true, Bool.not_not, Classical.not_not, go_sem, Int.reduceToNat, List.take_nil, Nat.zero_mul, Nat.reduceEqDiff, Nat.reduceAdd, Nat.reduceLT, Nat.reduceLeDiff, Nat.reduceMul, ↓reduceIte, reduceCtorEq]
            refine ⟨by omega, by omega, fun hk1 => ?_, fun hk1 => ?_⟩
            · have q1 := rd_at (E := encArr) hla hwa k hk1 0 (by decide)
              have q2 := rd_at (E := encArr) hla hwa k hk1 1 (by decide)
              simp only [encAf] at q1 q2
              have q1' : rd csa (oa + k * 2) = .i .i64 (gA A k).t := by rw [gA_mem hk1]; exact q1.2
              have q2' : rd csa (oa + k * 2 + 1) = .i .i64 (gA A k).e := by rw [gA_mem hk1]; exact q2.2
              have q3 := q1.1; have q4 := q2.1
              simp only [encArr, Nat.add_zero] at q3 q4
              have hok1 := gA_ok hAl1 hk1
              have e1 : (if finB A k < (gA A k).t then (gA A k).t else finB A k) + (gA A k).e = finB A (k + 1) := rfl
              have e2 : 0 ≤ finB A (k + 1) ∧ finB A (k + 1) ≤ 119 + 20 * (k + 1 : Nat) := by rw [← e1]; split <;> omega
              simp only [q1', q2', e1, not_true_eq_false, not_false_eq_true, decide_true, decide_false, Bool.not_true, Bool.not_false, false_implies, true_implies, and_true, true_and, Bool.false_eq_true, Bool.true_eq_false, implies_true, Bool.not_not, Classical.not_not, go_sem, Int.reduceToNat, List.take_nil, Nat.zero_mul, Nat.reduceEqDiff, Nat.reduceAdd, Nat.reduceLT, Nat.reduceLeDiff, Nat.reduceMul, ↓reduceIte, reduceCtorEq]
              refine ⟨by omega, by omega, hk1, q3, by omega, by omega, hk1, q4, by omega, ?_⟩
              refine seq_join (fun _ : Unit => ⟨[(6, .sl e 0 (AA.length + 1) ce), (7, .p n7 0), (8, .i .i64 (finB A (k + 1))), (9, .i .i64 k), (10, .i .i64 (if 120 < finB A (k + 1) then -1 else finB A (k + 1)))], σ1⟩) (fun _ => True) ?_ ?_
              · simp only [not_true_eq_false, not_false_eq_true, decide_true, decide_false, Bool.not_true, Bool.not_false, false_implies, true_implies, and_true, true_and, Bool.false_eq_true, Bool.true_eq_false, implies_true, Bool.not_not, Classical.not_not, go_sem, Int.reduceToNat, List.take_nil, Nat.zero_mul, Nat.reduceEqDiff, Nat.reduceAdd, Nat.reduceLT, Nat.reduceLeDiff, Nat.reduceMul, ↓reduceIte, reduceCtorEq]
                refine ⟨fun hf => kJ_intro () trivial (Wk.keep ?_), fun hf => kJ_intro () trivial (Wk.keep ?_)⟩
                · intro p hp
                  simp only [List.mem_cons, List.not_mem_nil, or_false] at hp
                  rw [if_pos hf] at hp
                  rcases hp with rfl | rfl | rfl | rfl | rfl <;> simp [look_cons]
                · intro p hp
                  simp only [List.mem_cons, List.not_mem_nil, or_false] at hp
                  rw [if_neg hf] at hp
                  rcases hp with rfl | rfl | rfl | rfl | rfl <;> simp [look_cons]
              · intro _ _
                have e3 := hsh k hk1
                change row.length = A.length at hsdr
                change gI row k = _ at e3
                have hkr : k < row.length := by omega
                rw [show gI row k = row[k] by simp [gI, List.getD_eq_getElem?_getD, hkr]] at e3
                rcases hr with ⟨nr, or_, cr, csr, hrv, _, hcr', hlr, hwr⟩ | ⟨_, h0, _⟩
                rotate_left
                · rw [h0] at hkr; exact absurd hkr (Nat.not_lt_zero _)
                have q5 := rd_at (E := encInt) hlr hwr k hkr 0 (by decide)
                have q6 : rd csr (or_ + k) = .i .i64 row[k] := by
                  have := q5.2
                  simp only [encInt, Nat.mul_one, Nat.add_zero] at this
                  rw [this]; rfl
                have q7 := q5.1
                simp only [encInt, Nat.mul_one, Nat.add_zero] at q7
                have e5 : ((1 : Nat) : Int) = 1 := rfl
                simp only [onC_of h7, onC_of hc4, hrv, onC_of hcr', q6, e3, hsdr, e5, not_true_eq_false, not_false_eq_true, decide_true, decide_false, Bool.not_true, Bool.not_false, false_implies, true_implies, and_true, true_and, Bool.false_eq_true, Bool.true_eq_false, implies_true, Bool.not_not, Classical.not_not, go_sem, Int.reduceToNat, List.take_nil, Nat.zero_mul, Nat.reduceEqDiff, Nat.reduceAdd, Nat.reduceLT, Nat.reduceLeDiff, Nat.reduceMul, ↓reduceIte, reduceCtorEq]
                refine ⟨by omega, by simp at hl4; omega, hk1, q7, by omega, ⟨hk1, e2⟩, Wk.keep ?_⟩
                intro p hp
                simp only [List.mem_cons, List.not_mem_nil, or_false] at hp
                rcases hp with rfl | rfl | rfl | rfl <;> simp [look_cons]
            · exact Fin.plain rfl
          · simp only [l0_laws_FnServerShare, onC_of hcs, hva, hvd, not_true_eq_false, not_false_eq_true, decide_true, decide_false, Bool.not_true, Bool.not_false, false_implies, true_implies, and_true, true_and, Bool.false_eq_true, Bool.true_eq_false, implies_true, Bool.not_not, Classical.not_not, go_sem, Int.reduceToNat, List.take_nil, Nat.zero_mul, Nat.reduceEqDiff, Nat.reduceAdd, Nat.reduceLT, Nat.reduceLeDiff, Nat.reduceMul, ↓reduceIte, reduceCtorEq]
            simp only [List.length_nil] at hk
            refine ⟨by omega, by omega, fun hk1 => absurd hk1 (by omega), fun hk1 => ?_⟩
            exact Fin.plain rfl
theorem c_FnServerShare (C : List Nat) (c : Nat) (hC : ∀ x ∈ C, x < 256) (_ : C.length * 1 ≤ 140737488351232) (hc : C.length ≤ c) :
    CallWp Try.prog n_laws_FnServerShare [.sl 0 0 C.length c] [.ro (encByte.row C)] (fun x _ => x = .b true) := laws_FnServerShare0 C hC c hc
end Go.Proofs.Ytnlciginmeebhaa
