import Derived.Test.YtmphblbpofnpaaaS82
import Derived.Test.YtmphblbpofnpaaaV1
import Derived.Test.YtmphblbpofnpaaaM48
namespace Go.Proofs.Ytmphblbpofnpaaa
open Go.Abs Go.Ds
set_option linter.unusedSimpArgs false
set_option linter.unusedVariables false
set_option maxRecDepth 20000
set_option maxHeartbeats 4000000
theorem g1_loop {L : List Job} {H : List AB} {cap' g : Nat} {v1 v2 : AV} {F : List Int} {L0 : Nat} {Q : Exit → St → Prop} {T : List (Nat × AV)} (hL : L.length ≤ 62) (hF62 : F.length ≤ 62) (cL : cellsOf H 2 = some (encJob.row L)) (hg : H[g]? = some (.rw ty_impl_GlobalRun [v1, v2] 2)) (hr : Rd encInt H v2 F)
    (hF : ∀ i : Nat, i < F.length → i < L.length ∧ (0 ≤ (L.getD i default).R ∧ (L.getD i default).R ≤ 1000) ∧ (0 ≤ (L.getD i default).E ∧ (L.getD i default).E ≤ 1000) ∧ ((L.getD i default).R + (L.getD i default).E ≤ 120 → gI F i = (L.getD i default).R + (L.getD i default).E))
    (k4 : Abs.look T 4 = .sl 2 0 L.length cap') (k8 : Abs.look T 8 = .p g 0) (k9 : Abs.look T 9 = .i .i64 0) (hk : ∀ T', Q (.exit 2) ⟨T', H⟩) : wpC Try.prog L0 136 (.loop l0_laws_FnGlobalOne) Q ⟨T, H⟩ := by
  refine loop_count F.length (fun k => ⟨[(4, .sl 2 0 L.length cap'), (8, .p g 0), (9, .i .i64 k)], H⟩) (fun _ => True) trivial (Wk.keep (by simp [k4, k8, k9])) fun k hkl _ => ?_
  rcases hr with ⟨n, o, cap, cs, rfl, hn, hc, hle, hw⟩ | ⟨rfl, h0, _⟩
  · simp only [l0_laws_FnGlobalOne, hg, not_true_eq_false, not_false_eq_true, decide_true, decide_false, Bool.not_true, Bool.not_false, false_implies, true_implies, and_true, true_and, Bool.false_eq_true, Bool.true_eq_false, implies_true, Bool.not_not, Classical.not_not, go_sem, Int.reduceToNat, List.take_nil, Nat.zero_mul, Nat.reduceEqDiff, Nat.reduceAdd, Nat.reduceLT, Nat.reduceLeDiff, Nat.reduceMul, ↓reduceIte, reduceCtorEq]
    refine ⟨fun hlt => ?_, fun hge => hk _⟩
    obtain ⟨f1, f2, f3, f4⟩ := hF k hlt
    have gL : L.getD k default = L[k] := by simp [List.getD_eq_getElem?_getD, f1]
    rw [gL] at f2 f3 f4
    have eF : gI F k = F[k] := by simp [gI, List.getD_eq_getElem?_getD, hlt]
    rw [eF] at f4
    have q2 := rd_at (E := encInt) hle hw k hlt 0 (by decide)
    simp only [encInt, Nat.mul_one, Nat.add_zero, rd_zero] at q2
    have e4 := q2.1
    simp only [onC_of cL, onC_of hc, rdJ1 f1, rdJ3 f1, lenJ, q2.2, not_true_eq_false, not_false_eq_true, decide_true, decide_false, Bool.not_true, Bool.not_false, false_implies, true_implies, and_true, true_and, Bool.false_eq_true, Bool.true_eq_false, implies_true, Bool.not_not, Classical.not_not, go_sem, Int.reduceToNat, List.take_nil, Nat.zero_mul, Nat.reduceEqDiff, Nat.reduceAdd, Nat.reduceLT, Nat.reduceLeDiff, Nat.reduceMul, ↓reduceIte, reduceCtorEq]
    repeat' first
      | omega
      | (exfalso; omega)
      | exact Wk.keep (by simp [look_cons])
      | refine ⟨?_, ?_⟩
      | intro _
  · subst h0
    simp only [l0_laws_FnGlobalOne, hg, not_true_eq_false, not_false_eq_true, decide_true, decide_false, Bool.not_true, Bool.not_false, false_implies, true_implies, and_true, true_and, Bool.false_eq_true, Bool.true_eq_false, implies_true, Bool.not_not, Classical.not_not, go_sem, Int.reduceToNat, List.take_nil, Nat.zero_mul, Nat.reduceEqDiff, Nat.reduceAdd, Nat.reduceLT, Nat.reduceLeDiff, Nat.reduceMul, ↓reduceIte, reduceCtorEq]
    first
      | exact hk _
      | exact ⟨fun h => absurd h (by omega), fun _ => hk _⟩
      | (refine ⟨fun h => absurd h ?_, fun _ => hk _⟩
         simp)
theorem laws_FnGlobalOne0 (C : List Nat) (hC : ∀ x ∈ C, x < 256) (c : Nat) (hc : C.length ≤ c) : CallWp Try.prog n_laws_FnGlobalOne [.sl 0 0 C.length c] [.ro (encByte.row C)] (fun x _ => x = .b true) := by
  refine call_laws_FnGlobalOne (by simp) ?_
  simp only [c_laws_FnGlobalOne, go_sem, Int.reduceToNat, List.take_nil, Nat.zero_mul, Nat.reduceEqDiff, Nat.reduceAdd, Nat.reduceLT, Nat.reduceLeDiff, Nat.reduceMul, ↓reduceIte, reduceCtorEq]
  refine ⟨fun h => Fin.plain rfl, fun h => ?_⟩
  refine (spec_DrawRunEdf0 C hC c hc).mono ?_
  rintro x σ' _ ⟨S, L, cap, cap', rfl, rfl, ⟨hS8, hSw⟩, hL62, hLw⟩
  obtain ⟨σ, eσ⟩ : ∃ σ : List AB, σ = [.ro (encByte.row C), .rw ty_impl_Task (encTask.row S) (cap * 3), .rw ty_impl_Job (encJob.row L) (cap' * 4)] := ⟨_, rfl⟩
  have hSc : cellsOf σ 1 = some (encTask.row S) := by rw [eσ]; rfl
  have hLc : cellsOf σ 2 = some (encJob.row L) := by rw [eσ]; rfl
  have h0 : 0 < σ.length := by rw [eσ]; simp
  rw [← eσ]
  clear eσ
  have rS : ∀ τ, Rd encTask (σ ++ τ) (.sl 1 0 S.length cap) S := fun τ => Rd.own (cells_old hSc τ)
  have rL : ∀ τ, Rd encJob (σ ++ τ) (.sl 2 0 L.length cap') L := fun τ => Rd.own (cells_old hLc τ)
  have hS0 : Rd encTask σ (.sl 1 0 S.length cap) S := Rd.own hSc
  simp only [not_true_eq_false, not_false_eq_true, decide_true, decide_false, Bool.not_true, Bool.not_false, false_implies, true_implies, and_true, true_and, Bool.false_eq_true, Bool.true_eq_false, implies_true, Bool.not_not, Classical.not_not, go_sem, Int.reduceToNat, List.take_nil, Nat.zero_mul, Nat.reduceEqDiff, Nat.reduceAdd, Nat.reduceLT, Nat.reduceLeDiff, Nat.reduceMul, ↓reduceIte, reduceCtorEq]
  refine impl_RunGlobal_ (S := S) (L := L) (by omega) (by omega) hS0 hLc (fun hno τ => ?_) (fun M eM hok τ x hx => ?_)
  · have hno' : ¬ jobsLegal S L := fun h => hno ⟨h, by omega⟩
    have rS1 : ∀ ω, Rd encTask ((σ ++ τ) ++ ω) (.sl 1 0 S.length cap) S := fun ω => (rS τ).app
    have rL1 : ∀ ω, Rd encJob ((σ ++ τ) ++ ω) (.sl 2 0 L.length cap') L := fun ω => (rL τ).app
    have cL1 : ∀ ω, cellsOf ((σ ++ τ) ++ ω) 2 = some (encJob.row L) := fun ω => cells_old (cells_old hLc τ) ω
    generalize σ ++ τ = H1 at *
    simp only [at_new0, set_new0, not_true_eq_false, not_false_eq_true, decide_true, decide_false, Bool.not_true, Bool.not_false, false_implies, true_implies, and_true, true_and, Bool.false_eq_true, Bool.true_eq_false, implies_true, Bool.not_not, Classical.not_not, go_sem, Int.reduceToNat, List.take_nil, Nat.zero_mul, Nat.reduceEqDiff, Nat.reduceAdd, Nat.reduceLT, Nat.reduceLeDiff, Nat.reduceMul, ↓reduceIte, reduceCtorEq]
    refine impl_RunEdf_ (S := S) (L := L) (by omega) (by omega) (rS1 _) (rL1 _) (fun _ => ?_) (fun h => absurd h hno')
    simp only [List.append_assoc, List.cons_append, List.nil_append, at_new0, at_new, set_new, set_new0, not_true_eq_false, not_false_eq_true, decide_true, decide_false, Bool.not_true, Bool.not_false, false_implies, true_implies, and_true, true_and, Bool.false_eq_true, Bool.true_eq_false, implies_true, Bool.not_not, Classical.not_not, go_sem, Int.reduceToNat, List.take_nil, Nat.zero_mul, Nat.reduceEqDiff, Nat.reduceAdd, Nat.reduceLT, Nat.reduceLeDiff, Nat.reduceMul, ↓reduceIte, reduceCtorEq]
    refine seq_join (fun _ : Unit => ⟨[(3, .sl 1 0 S.length cap), (4, .sl 2 0 L.length cap'), (5, .p H1.length 0), (6, .p (H1.length + 1) 0)], H1 ++ [.rw ty_impl_GlobalRun [.sn, .sn] 2, .rw ty_impl_Schedule [.sn, .sn] 2]⟩) (fun _ => True) ?_ ?_
    · refine seq_join (fun _ : Unit => ⟨[(3, .sl 1 0 S.length cap), (4, .sl 2 0 L.length cap'), (5, .p H1.length 0), (6, .p (H1.length + 1) 0), (47, .b false)], H1 ++ [.rw ty_impl_GlobalRun [.sn, .sn] 2, .rw ty_impl_Schedule [.sn, .sn] 2]⟩) (fun _ => True) ?_ ?_
      · simp only [at_new0, at_new, not_true_eq_false, not_false_eq_true, decide_true, decide_false, Bool.not_true, Bool.not_false, false_implies, true_implies, and_true, true_and, Bool.false_eq_true, Bool.true_eq_false, implies_true, Bool.not_not, Classical.not_not, go_sem, Int.reduceToNat, List.take_nil, Nat.zero_mul, Nat.reduceEqDiff, Nat.reduceAdd, Nat.reduceLT, Nat.reduceLeDiff, Nat.reduceMul, ↓reduceIte, reduceCtorEq]
        refine spec_RunEdf_ (S := S) (L := L) (by omega) (by omega) (rS1 _) (rL1 _) (fun _ => ?_) (fun h => absurd h hno')
        simp only [at_new0, at_new, not_true_eq_false, not_false_eq_true, decide_true, decide_false, Bool.not_true, Bool.not_false, false_implies, true_implies, and_true, true_and, Bool.false_eq_true, Bool.true_eq_false, implies_true, Bool.not_not, Classical.not_not, go_sem, Int.reduceToNat, List.take_nil, Nat.zero_mul, Nat.reduceEqDiff, Nat.reduceAdd, Nat.reduceLT, Nat.reduceLeDiff, Nat.reduceMul, ↓reduceIte, reduceCtorEq]
        refine laws_sameSchedule_ (X1 := []) (Y1 := []) (X2 := []) (Y2 := []) (Rd.none (by simp)) (Rd.none (by simp)) (Rd.none (by simp)) (Rd.none (by simp)) (by simp) (by simp) ?_
        simp only [at_new0, at_new, not_true_eq_false, not_false_eq_true, decide_true, decide_false, Bool.not_true, Bool.not_false, false_implies, true_implies, and_true, true_and, Bool.false_eq_true, Bool.true_eq_false, implies_true, Bool.not_not, Classical.not_not, go_sem, Int.reduceToNat, List.take_nil, Nat.zero_mul, Nat.reduceEqDiff, Nat.reduceAdd, Nat.reduceLT, Nat.reduceLeDiff, Nat.reduceMul, ↓reduceIte, reduceCtorEq]
        have leaf : ∀ T : List (Nat × AV), (∀ x ∈ [((3 : Nat), AV.sl 1 0 S.length cap), (4, .sl 2 0 L.length cap'), (5, .p H1.length 0), (6, .p (H1.length + 1) 0), (47, .b false)], Abs.look T x.1 = x.2) → kJ 1 136 (fun _ : Unit => ⟨[(3, .sl 1 0 S.length cap), (4, .sl 2 0 L.length cap'), (5, .p H1.length 0), (6, .p (H1.length + 1) 0), (47, .b false)], H1 ++ [.rw ty_impl_GlobalRun [.sn, .sn] 2, .rw ty_impl_Schedule [.sn, .sn] 2]⟩) (fun _ => True) (kJ 1 136 (fun _ : Unit => ⟨[(3, .sl 1 0 S.length cap), (4, .sl 2 0 L.length cap'), (5, .p H1.length 0), (6, .p (H1.length + 1) 0)], H1 ++ [.rw ty_impl_GlobalRun [.sn, .sn] 2, .rw ty_impl_Schedule [.sn, .sn] 2]⟩) (fun _ => True) (retP 1 [RV.t 2] fun x x_1 => x = AV.b true)) .normal ⟨T, H1 ++ [.rw ty_impl_GlobalRun [.sn, .sn] 2, .rw ty_impl_Schedule [.sn, .sn] 2]⟩ := fun T h => kJ_intro () trivial (Wk.keep h)
        repeat' first
          | (refine leaf _ ?_
             intro x hx
             simp only [List.mem_cons, List.not_mem_nil, or_false] at hx
             rcases hx with rfl | rfl | rfl | rfl | rfl <;> simp [look_cons])
          | (refine laws_sameInts_ (L := []) (M := []) (by simp) (Rd.none (by simp)) (Rd.none (by simp)) ?_
             simp only [at_new0, at_new, not_true_eq_false, not_false_eq_true, decide_true, decide_false, Bool.not_true, Bool.not_false, false_implies, true_implies, and_true, true_and, Bool.false_eq_true, Bool.true_eq_false, implies_true, Bool.not_not, Classical.not_not, go_sem, Int.reduceToNat, List.take_nil, Nat.zero_mul, Nat.reduceEqDiff, Nat.reduceAdd, Nat.reduceLT, Nat.reduceLeDiff, Nat.reduceMul, ↓reduceIte, reduceCtorEq])
          | refine ⟨?_, ?_⟩
      · intro _ _
        simp only [not_true_eq_false, not_false_eq_true, decide_true, decide_false, Bool.not_true, Bool.not_false, false_implies, true_implies, and_true, true_and, Bool.false_eq_true, Bool.true_eq_false, implies_true, Bool.not_not, Classical.not_not, go_sem, Int.reduceToNat, List.take_nil, Nat.zero_mul, Nat.reduceEqDiff, Nat.reduceAdd, Nat.reduceLT, Nat.reduceLeDiff, Nat.reduceMul, ↓reduceIte, reduceCtorEq]
        exact kJ_intro () trivial (Wk.keep (by simp [look_cons]))
    · intro _ _
      simp only [at_new0, at_new, not_true_eq_false, not_false_eq_true, decide_true, decide_false, Bool.not_true, Bool.not_false, false_implies, true_implies, and_true, true_and, Bool.false_eq_true, Bool.true_eq_false, implies_true, Bool.not_not, Classical.not_not, go_sem, Int.reduceToNat, List.take_nil, Nat.zero_mul, Nat.reduceEqDiff, Nat.reduceAdd, Nat.reduceLT, Nat.reduceLeDiff, Nat.reduceMul, ↓reduceIte, reduceCtorEq]
      refine loop_count 0 (fun k => ⟨[(3, .sl 1 0 S.length cap), (4, .sl 2 0 L.length cap'), (5, .p H1.length 0), (6, .p (H1.length + 1) 0), (7, .i .i64 0)], H1 ++ [.rw ty_impl_GlobalRun [.sn, .sn] 2, .rw ty_impl_Schedule [.sn, .sn] 2]⟩) (fun _ => True) trivial (Wk.keep (by simp [look_cons])) fun k hk _ => ?_
      simp only [l1_laws_FnGlobalOne, at_new0, at_new, not_true_eq_false, not_false_eq_true, decide_true, decide_false, Bool.not_true, Bool.not_false, false_implies, true_implies, and_true, true_and, Bool.false_eq_true, Bool.true_eq_false, implies_true, Bool.not_not, Classical.not_not, go_sem, Int.reduceToNat, List.take_nil, Nat.zero_mul, Nat.reduceEqDiff, Nat.reduceAdd, Nat.reduceLT, Nat.reduceLeDiff, Nat.reduceMul, ↓reduceIte, reduceCtorEq]
      refine ⟨fun h => absurd h (by omega), fun _ => ?_⟩
      refine impl_RunGlobal_ (S := S) (L := L) (by omega) (by omega) (rS1 _) (cL1 _) (fun _ τ2 => ?_) (fun M _ hok => absurd hok.1 hno')
      have cL3 := fun ω => cells_old (cells_old (cL1 [AB.rw ty_impl_GlobalRun [.sn, .sn] 2, AB.rw ty_impl_Schedule [.sn, .sn] 2]) τ2) ω
      generalize H1 ++ [AB.rw ty_impl_GlobalRun [.sn, .sn] 2, AB.rw ty_impl_Schedule [.sn, .sn] 2] ++ τ2 = H3 at *
      simp only [at_new0, set_new0, not_true_eq_false, not_false_eq_true, decide_true, decide_false, Bool.not_true, Bool.not_false, false_implies, true_implies, and_true, true_and, Bool.false_eq_true, Bool.true_eq_false, implies_true, Bool.not_not, Classical.not_not, go_sem, Int.reduceToNat, List.take_nil, Nat.zero_mul, Nat.reduceEqDiff, Nat.reduceAdd, Nat.reduceLT, Nat.reduceLeDiff, Nat.reduceMul, ↓reduceIte, reduceCtorEq]
      refine g1_loop (L := L) (cap' := cap') (g := H3.length) (v1 := .sn) (v2 := .sn) (F := []) hL62 (by simp) (cL3 _) (by rw [at_new0]; rfl) (Rd.none (by simp)) (fun i hi => absurd hi (Nat.not_lt_zero _)) (by simp [look_cons]) (by simp [look_cons]) (by simp [look_cons]) fun T' => ?_
      simp only [not_true_eq_false, not_false_eq_true, decide_true, decide_false, Bool.not_true, Bool.not_false, false_implies, true_implies, and_true, true_and, Bool.false_eq_true, Bool.true_eq_false, implies_true, Bool.not_not, Classical.not_not, go_sem, Int.reduceToNat, List.take_nil, Nat.zero_mul, Nat.reduceEqDiff, Nat.reduceAdd, Nat.reduceLT, Nat.reduceLeDiff, Nat.reduceMul, ↓reduceIte, reduceCtorEq]
      refine laws_alive_ ?_
      simp only [not_true_eq_false, not_false_eq_true, decide_true, decide_false, Bool.not_true, Bool.not_false, false_implies, true_implies, and_true, true_and, Bool.false_eq_true, Bool.true_eq_false, implies_true, Bool.not_not, Classical.not_not, go_sem, Int.reduceToNat, List.take_nil, Nat.zero_mul, Nat.reduceEqDiff, Nat.reduceAdd, Nat.reduceLT, Nat.reduceLeDiff, Nat.reduceMul, ↓reduceIte, reduceCtorEq]
      exact Fin.plain rfl
  · obtain rfl : M = 1 := by omega
    have hv := hok.1
    have hE := jl_E hok.1
    have hR := edfRun_length L
    have hF := edfFin_length L
    obtain ⟨v1, v2, rfl, r1, r2⟩ := hx.plain
    have rS1 : ∀ ω, Rd encTask ((σ ++ τ) ++ ω) (.sl 1 0 S.length cap) S := fun ω => (rS τ).app
    have rL1 : ∀ ω, Rd encJob ((σ ++ τ) ++ ω) (.sl 2 0 L.length cap') L := fun ω => (rL τ).app
    have cL1 : ∀ ω, cellsOf ((σ ++ τ) ++ ω) 2 = some (encJob.row L) := fun ω => cells_old (cells_old hLc τ) ω
    clear hx
    have hlr := gRows_len L 1
    have hGE : gFin L 1 = edfFin L := gFin_one L
    rw [hGE] at r2
    rcases r1 with ⟨n1, o1, c3, cs1, rfl, hc1, hl1, hr1⟩ | ⟨_, hz, _⟩
    rotate_left
    · rw [hz] at hlr; cases hlr
    rw [hlr] at hl1 ⊢
    have hr1' : ∀ k, k < 120 → Rd encInt (σ ++ τ) (rd cs1 (o1 + k)) (natsOf (gRow L 1 k)) := fun k hk => by
      have := hr1 k (by omega)
      have e : (gRows L 1)[k]'(by rw [gRows_len]; exact hk) = natsOf (gRow L 1 k) := by simp [gRows]
      rw [e] at this
      exact this
    clear hr1
    have h1 : 0 < (σ ++ τ).length := by rw [List.length_append]; omega
    generalize σ ++ τ = H1 at *
    simp only [at_new0, set_new0, r2.data, not_true_eq_false, not_false_eq_true, decide_true, decide_false, Bool.not_true, Bool.not_false, false_implies, true_implies, and_true, true_and, Bool.false_eq_true, Bool.true_eq_false, implies_true, Bool.not_not, Classical.not_not, go_sem, Int.reduceToNat, List.take_nil, Nat.zero_mul, Nat.reduceEqDiff, Nat.reduceAdd, Nat.reduceLT, Nat.reduceLeDiff, Nat.reduceMul, ↓reduceIte, reduceCtorEq]
    refine impl_RunEdf_ (S := S) (L := L) (by omega) (by omega) (rS1 _) (rL1 _) (fun h => absurd hv h) (fun _ c1 c2 => ?_)
    simp only [List.append_assoc, List.cons_append, List.nil_append, List.length_append, at_new0, at_new, set_new, set_new0, not_true_eq_false, not_false_eq_true, decide_true, decide_false, Bool.not_true, Bool.not_false, false_implies, true_implies, and_true, true_and, Bool.false_eq_true, Bool.true_eq_false, implies_true, Bool.not_not, Classical.not_not, go_sem, Int.reduceToNat, List.take_nil, Nat.zero_mul, Nat.reduceEqDiff, Nat.reduceAdd, Nat.reduceLT, Nat.reduceLeDiff, Nat.reduceMul, ↓reduceIte, reduceCtorEq]
    obtain ⟨G, g, s, u, w, eG, eg, es, eu, ew, fg, fs, fR, fF⟩ : ∃ (G : List AB) (g s u w : Nat), H1 ++ [AB.rw ty_impl_GlobalRun [.sl n1 o1 120 c3, v2] 2, AB.rw ty_int (encInt.row (edfRun L)) c1, AB.rw ty_int (encInt.row (edfFin L)) c2, AB.rw ty_impl_Schedule [.sl (H1.length + 1) 0 120 c1, .sl (H1.length + 1 + 1) 0 L.length c2] 2] = G ∧ H1.length = g ∧ H1.length + 3 = s ∧ H1.length + 1 = u ∧ H1.length + 1 + 1 = w ∧
        (∀ ω, (G ++ ω)[g]? = some (.rw ty_impl_GlobalRun [.sl n1 o1 120 c3, v2] 2)) ∧ (∀ ω, (G ++ ω)[s]? = some (.rw ty_impl_Schedule [.sl u 0 120 c1, .sl w 0 L.length c2] 2)) ∧ (∀ ω, cellsOf (G ++ ω) u = some (encInt.row (edfRun L))) ∧ (∀ ω, cellsOf (G ++ ω) w = some (encInt.row (edfFin L))) := by
      refine ⟨_, _, _, _, _, rfl, rfl, rfl, rfl, rfl, fun ω => ?_, fun ω => ?_, fun ω => ?_, fun ω => ?_⟩
      · simp only [List.append_assoc, at_new0]; rfl
      · simp only [List.append_assoc, at_new]; rfl
      · simp only [cellsOf, List.append_assoc, at_new]; rfl
      · simp only [cellsOf, List.append_assoc, Nat.add_assoc, at_new]; rfl
    have rS2 : ∀ ω, Rd encTask (G ++ ω) (.sl 1 0 S.length cap) S := fun ω => by rw [← eG, List.append_assoc]; exact rS1 _
    have rL2 : ∀ ω, Rd encJob (G ++ ω) (.sl 2 0 L.length cap') L := fun ω => by rw [← eG, List.append_assoc]; exact rL1 _
    have cL2 : ∀ ω, cellsOf (G ++ ω) 2 = some (encJob.row L) := fun ω => by rw [← eG, List.append_assoc]; exact cL1 _
    have q1 : ∀ ω, cellsOf (G ++ ω) n1 = some cs1 := fun ω => by rw [← eG, List.append_assoc]; exact cells_old hc1 _
    have q5 : ∀ ω k, k < 120 → Rd encInt (G ++ ω) (rd cs1 (o1 + k)) (natsOf (gRow L 1 k)) := fun ω k hk => by rw [← eG, List.append_assoc]; exact (hr1' k hk).app
    have q2 : ∀ ω, Rd encInt (G ++ ω) v2 (edfFin L) := fun ω => by rw [← eG, List.append_assoc]; exact r2.app
    have q3 : ∀ ω, Rd encInt (G ++ ω) (.sl u 0 120 c1) (edfRun L) := fun ω => by have := Rd.own (cap := c1) (fR ω); rwa [hR] at this
    have q4 : ∀ ω, Rd encInt (G ++ ω) (.sl w 0 L.length c2) (edfFin L) := fun ω => by have := Rd.own (cap := c2) (fF ω); rwa [hF] at this
    have hG0 : 0 < G.length := by rw [← eG, List.length_append]; omega
    rw [eG, ew, eu, es, eg]
    clear eG ew eu es eg rS1 rL1 cL1 r2 hr1' hc1
    have fs0 := fs []
    have fg0 := fg []
    have rS0 := rS2 []
    have rL0 := rL2 []
    rw [List.append_nil] at fs0 fg0 rS0 rL0
    refine seq_join (fun τ' : List AB => ⟨[(3, .sl 1 0 S.length cap), (4, .sl 2 0 L.length cap'), (5, .p g 0), (6, .p s 0)], G ++ τ'⟩) (fun _ => True) ?_ ?_
    · refine seq_join (fun τ' : List AB => ⟨[(3, .sl 1 0 S.length cap), (4, .sl 2 0 L.length cap'), (5, .p g 0), (6, .p s 0), (47, .b false)], G ++ τ'⟩) (fun _ => True) ?_ ?_
      · simp only [fs0, not_true_eq_false, not_false_eq_true, decide_true, decide_false, Bool.not_true, Bool.not_false, false_implies, true_implies, and_true, true_and, Bool.false_eq_true, Bool.true_eq_false, implies_true, Bool.not_not, Classical.not_not, go_sem, Int.reduceToNat, List.take_nil, Nat.zero_mul, Nat.reduceEqDiff, Nat.reduceAdd, Nat.reduceLT, Nat.reduceLeDiff, Nat.reduceMul, ↓reduceIte, reduceCtorEq]
        refine spec_RunEdf_ (S := S) (L := L) (by omega) (by omega) rS0 rL0 (fun h => absurd hv h) (fun _ => ?_)
        rintro x τ' hq
        have hq2 : ∃ a b, x = .agg [a, b] ∧ Rd encInt (G ++ τ') a (edfRun L) ∧ Rd encInt (G ++ τ') b (edfFin L) := by
          rcases hq with ⟨hno, _⟩ | ⟨_, d1, d2, ⟨hne, rfl, rfl⟩ | ⟨hne, rfl, rfl⟩⟩
          · exact absurd trivial hno
          · refine ⟨_, _, rfl, ?_, ?_⟩
            · have := Rd.own (E := encInt) (σ := G ++ [AB.rw ty_int (encInt.row (edfRun L)) d1, AB.rw ty_int (encInt.row (edfFin L)) d2]) (n := G.length) (cap := d1) (L := edfRun L) (by simp [cellsOf, at_new0])
              rwa [hR] at this
            · exact Rd.own (E := encInt) (L := edfFin L) (by simp [cellsOf, at_new])
          · refine ⟨_, _, rfl, ?_, by rw [hne]; exact Rd.none (by simp)⟩
            have := Rd.own (E := encInt) (σ := G ++ [AB.rw ty_int (encInt.row (edfRun L)) d1]) (n := G.length) (cap := d1) (L := edfRun L) (by simp [cellsOf, at_new0])
            rwa [hR] at this
        obtain ⟨a, b, rfl, hqa, hqb⟩ := hq2
        have fs1 := fs τ'
        have fg1 := fg τ'
        simp only [fs1, hqa.data, hqb.data, not_true_eq_false, not_false_eq_true, decide_true, decide_false, Bool.not_true, Bool.not_false, false_implies, true_implies, and_true, true_and, Bool.false_eq_true, Bool.true_eq_false, implies_true, Bool.not_not, Classical.not_not, go_sem, Int.reduceToNat, List.take_nil, Nat.zero_mul, Nat.reduceEqDiff, Nat.reduceAdd, Nat.reduceLT, Nat.reduceLeDiff, Nat.reduceMul, ↓reduceIte, reduceCtorEq]
        refine laws_sameSchedule_ (X1 := edfRun L) (Y1 := edfFin L) (X2 := edfRun L) (Y2 := edfFin L) (q3 τ') (q4 τ') hqa hqb (by omega) (by omega) ?_
        have hdd : decide (edfFin L = edfFin L) = true := by simp
        have hdr : decide (edfRun L = edfRun L ∧ edfFin L = edfFin L) = true := by simp
        simp only [fs1, fg1, hdr, (q2 τ').data, not_true_eq_false, not_false_eq_true, decide_true, decide_false, Bool.not_true, Bool.not_false, false_implies, true_implies, and_true, true_and, Bool.false_eq_true, Bool.true_eq_false, implies_true, Bool.not_not, Classical.not_not, go_sem, Int.reduceToNat, List.take_nil, Nat.zero_mul, Nat.reduceEqDiff, Nat.reduceAdd, Nat.reduceLT, Nat.reduceLeDiff, Nat.reduceMul, ↓reduceIte, reduceCtorEq]
        have leaf : ∀ T : List (Nat × AV), (∀ x ∈ [((3 : Nat), AV.sl 1 0 S.length cap), (4, .sl 2 0 L.length cap'), (5, .p g 0), (6, .p s 0), (47, .b false)], Abs.look T x.1 = x.2) → kJ 1 136 (fun τ' : List AB => ⟨[(3, .sl 1 0 S.length cap), (4, .sl 2 0 L.length cap'), (5, .p g 0), (6, .p s 0), (47, .b false)], G ++ τ'⟩) (fun _ => True) (kJ 1 136 (fun τ' : List AB => ⟨[(3, .sl 1 0 S.length cap), (4, .sl 2 0 L.length cap'), (5, .p g 0), (6, .p s 0)], G ++ τ'⟩) (fun _ => True) (retP 1 [RV.t 2] fun x x_1 => x = AV.b true)) .normal ⟨T, G ++ τ'⟩ := fun T h => kJ_intro τ' trivial (Wk.keep h)
        repeat' first
          | (refine leaf _ ?_
             intro x hx
             simp only [List.mem_cons, List.not_mem_nil, or_false] at hx
             rcases hx with rfl | rfl | rfl | rfl | rfl <;> simp [look_cons])
          | (refine laws_sameInts_ (L := edfFin L) (M := edfFin L) (by omega) (q2 τ') (q4 τ') ?_
             simp only [hdd, fs1, fg1, not_true_eq_false, not_false_eq_true, decide_true, decide_false, Bool.not_true, Bool.not_false, false_implies, true_implies, and_true, true_and, Bool.false_eq_true, Bool.true_eq_false, implies_true, Bool.not_not, Classical.not_not, go_sem, Int.reduceToNat, List.take_nil, Nat.zero_mul, Nat.reduceEqDiff, Nat.reduceAdd, Nat.reduceLT, Nat.reduceLeDiff, Nat.reduceMul, ↓reduceIte, reduceCtorEq])
          | refine ⟨?_, ?_⟩
      · intro τ' _
        simp only [not_true_eq_false, not_false_eq_true, decide_true, decide_false, Bool.not_true, Bool.not_false, false_implies, true_implies, and_true, true_and, Bool.false_eq_true, Bool.true_eq_false, implies_true, Bool.not_not, Classical.not_not, go_sem, Int.reduceToNat, List.take_nil, Nat.zero_mul, Nat.reduceEqDiff, Nat.reduceAdd, Nat.reduceLT, Nat.reduceLeDiff, Nat.reduceMul, ↓reduceIte, reduceCtorEq]
        exact kJ_intro τ' trivial (Wk.keep (by simp [look_cons]))
    · intro τ' _
      simp only [fg τ', fs τ', not_true_eq_false, not_false_eq_true, decide_true, decide_false, Bool.not_true, Bool.not_false, false_implies, true_implies, and_true, true_and, Bool.false_eq_true, Bool.true_eq_false, implies_true, Bool.not_not, Classical.not_not, go_sem, Int.reduceToNat, List.take_nil, Nat.zero_mul, Nat.reduceEqDiff, Nat.reduceAdd, Nat.reduceLT, Nat.reduceLeDiff, Nat.reduceMul, ↓reduceIte, reduceCtorEq]
      refine loop_count 120 (fun k => ⟨[(3, .sl 1 0 S.length cap), (4, .sl 2 0 L.length cap'), (5, .p g 0), (6, .p s 0), (7, .i .i64 k)], G ++ τ'⟩) (fun _ => True) trivial (Wk.keep (by simp [look_cons])) fun k hk _ => ?_
      simp only [l1_laws_FnGlobalOne, fg τ', fs τ', not_true_eq_false, not_false_eq_true, decide_true, decide_false, Bool.not_true, Bool.not_false, false_implies, true_implies, and_true, true_and, Bool.false_eq_true, Bool.true_eq_false, implies_true, Bool.not_not, Classical.not_not, go_sem, Int.reduceToNat, List.take_nil, Nat.zero_mul, Nat.reduceEqDiff, Nat.reduceAdd, Nat.reduceLT, Nat.reduceLeDiff, Nat.reduceMul, ↓reduceIte, reduceCtorEq]
      refine ⟨fun hk1 => ?_, fun hk1 => ?_⟩
      · have hkR : k < (edfRun L).length := by omega
        have hrow := q5 τ' k hk1
        have e1 : (edfRun L)[k] = edfPick L k (gSt L 1 k).done := by
          have := simU_at (L := L) (pick := edfPick L) hk1
          rw [(gSt_one L k).1, ← this]
          exact (gI_row hkR).symm
        rw [gRow_one] at hrow
        have hp := bestF_range (readyJ L (gSt L 1 k).done k) (fun i => (L.getD i default).D) L.length
        change -1 ≤ edfPick L k (gSt L 1 k).done ∧ _ at hp
        rw [← e1] at hrow hp
        have hl1' : o1 + k < cs1.length := by omega
        by_cases g0 : (edfRun L)[k] < 0
        · rw [if_pos g0] at hrow
          rcases hrow with ⟨n, o, cp, cs, hvr, hn, hc, hle, hw⟩ | ⟨hvr, _, _⟩
          · simp only [onC_of (q1 τ'), hvr, natsOf, onC_of (fR τ'), rdI hkR, lenI, hR, not_true_eq_false, not_false_eq_true, decide_true, decide_false, Bool.not_true, Bool.not_false, false_implies, true_implies, and_true, true_and, Bool.false_eq_true, Bool.true_eq_false, implies_true, Bool.not_not, Classical.not_not, go_sem, Int.reduceToNat, List.take_nil, Nat.zero_mul, Nat.reduceEqDiff, Nat.reduceAdd, Nat.reduceLT, Nat.reduceLeDiff, Nat.reduceMul, ↓reduceIte, reduceCtorEq]
            repeat' first
              | omega
              | (exfalso; omega)
              | exact Wk.keep (by simp [look_cons])
              | refine ⟨?_, ?_⟩
              | intro _
          · simp only [onC_of (q1 τ'), hvr, natsOf, onC_of (fR τ'), rdI hkR, lenI, hR, not_true_eq_false, not_false_eq_true, decide_true, decide_false, Bool.not_true, Bool.not_false, false_implies, true_implies, and_true, true_and, Bool.false_eq_true, Bool.true_eq_false, implies_true, Bool.not_not, Classical.not_not, go_sem, Int.reduceToNat, List.take_nil, Nat.zero_mul, Nat.reduceEqDiff, Nat.reduceAdd, Nat.reduceLT, Nat.reduceLeDiff, Nat.reduceMul, ↓reduceIte, reduceCtorEq]
            repeat' first
              | omega
              | (exfalso; omega)
              | exact Wk.keep (by simp [look_cons])
              | refine ⟨?_, ?_⟩
              | intro _
        · rw [if_neg g0] at hrow
          rcases hrow with ⟨n, o, cp, cs, hvr, hn, hc, hle, hw⟩ | ⟨hvr, hz, _⟩
          · have w1 := rd_at (E := encInt) hle hw 0 (by simp [natsOf]) 0 (by decide)
            simp only [encInt, natsOf, Nat.mul_one, Nat.add_zero, rd_zero, List.map_cons, List.map_nil, List.getElem_cons_zero, Nat.zero_mul] at w1
            have e5 : (((edfRun L)[k].toNat : Nat) : Int) = (edfRun L)[k] := by omega
            rw [e5] at w1
            have w2 := w1.1
            simp only [onC_of (q1 τ'), hvr, natsOf, onC_of (fR τ'), onC_of hc, w1.2, rdI hkR, lenI, hR, List.length_cons, List.length_nil, not_true_eq_false, not_false_eq_true, decide_true, decide_false, Bool.not_true, Bool.not_false, false_implies, true_implies, and_true, true_and, Bool.false_eq_true, Bool.true_eq_false, implies_true, Bool.not_not, Classical.not_not, go_sem, Int.reduceToNat, List.take_nil, Nat.zero_mul, Nat.reduceEqDiff, Nat.reduceAdd, Nat.reduceLT, Nat.reduceLeDiff, Nat.reduceMul, ↓reduceIte, reduceCtorEq]
            repeat' first
              | omega
              | (exfalso; omega)
              | exact Wk.keep (by simp [look_cons])
              | refine ⟨?_, ?_⟩
              | intro _
          · simp [natsOf] at hz
      · have hok5 : globOk S L 5 := ⟨hv, by decide⟩
        refine impl_RunGlobal_ (S := S) (L := L) (by omega) (by omega) (rS2 τ') (cL2 τ') (fun h => absurd hok5 h) (fun M5 e5 _ τ2 y hy => ?_)
        obtain rfl : M5 = 5 := by omega
        obtain ⟨z1, z2, rfl, s1, s2⟩ := hy.plain
        have cL3 := fun ω => cells_old (cells_old (cL2 τ') τ2) ω
        have s2' := fun ω => s2.app (τ := ω)
        have hlf5 : (gFin L 5).length = L.length := (gSt_len L 5 120).2
        clear hy
        generalize G ++ τ' ++ τ2 = H3 at *
        simp only [at_new0, set_new0, s1.data, s2.data, not_true_eq_false, not_false_eq_true, decide_true, decide_false, Bool.not_true, Bool.not_false, false_implies, true_implies, and_true, true_and, Bool.false_eq_true, Bool.true_eq_false, implies_true, Bool.not_not, Classical.not_not, go_sem, Int.reduceToNat, List.take_nil, Nat.zero_mul, Nat.reduceEqDiff, Nat.reduceAdd, Nat.reduceLT, Nat.reduceLeDiff, Nat.reduceMul, ↓reduceIte, reduceCtorEq]
        refine g1_loop (L := L) (cap' := cap') (g := H3.length) (v1 := z1) (v2 := z2) (F := gFin L 5) hL62 (by omega) (cL3 _) (by rw [at_new0]; rfl) (s2' _) (fun i hi => ?_) (by simp [look_cons]) (by simp [look_cons]) (by simp [look_cons]) fun T' => ?_
        · have hi' : i < L.length := by omega
          have hm := hv.2.1.mem (getD_mem hi')
          have hc5 : costOf S (L.getD i default).T ≤ 12 := by
            have := gT_ok hv.1 hm.1.1 hm.1.2
            unfold Task.ok at this
            unfold costOf
            omega
          exact ⟨hi', by omega, by omega, fun he => many_fin hv hi' he⟩
        · simp only [not_true_eq_false, not_false_eq_true, decide_true, decide_false, Bool.not_true, Bool.not_false, false_implies, true_implies, and_true, true_and, Bool.false_eq_true, Bool.true_eq_false, implies_true, Bool.not_not, Classical.not_not, go_sem, Int.reduceToNat, List.take_nil, Nat.zero_mul, Nat.reduceEqDiff, Nat.reduceAdd, Nat.reduceLT, Nat.reduceLeDiff, Nat.reduceMul, ↓reduceIte, reduceCtorEq]
          refine laws_alive_ ?_
          simp only [not_true_eq_false, not_false_eq_true, decide_true, decide_false, Bool.not_true, Bool.not_false, false_implies, true_implies, and_true, true_and, Bool.false_eq_true, Bool.true_eq_false, implies_true, Bool.not_not, Classical.not_not, go_sem, Int.reduceToNat, List.take_nil, Nat.zero_mul, Nat.reduceEqDiff, Nat.reduceAdd, Nat.reduceLT, Nat.reduceLeDiff, Nat.reduceMul, ↓reduceIte, reduceCtorEq]
          exact Fin.plain rfl
theorem c_FnGlobalOne (C : List Nat) (c : Nat) (hC : ∀ x ∈ C, x < 256) (_ : C.length * 1 ≤ 140737488351232) (hc : C.length ≤ c) :
    CallWp Try.prog n_laws_FnGlobalOne [.sl 0 0 C.length c] [.ro (encByte.row C)] (fun x _ => x = .b true) := laws_FnGlobalOne0 C hC c hc
end Go.Proofs.Ytmphblbpofnpaaa
