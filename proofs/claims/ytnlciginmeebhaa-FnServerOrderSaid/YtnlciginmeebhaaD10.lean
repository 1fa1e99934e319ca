import Derived.Test.YtnlciginmeebhaaF2
import Derived.Test.YtnlciginmeebhaaD4
import Derived.Test.YtnlciginmeebhaaS5
import Derived.Test.YtnlciginmeebhaaSP
namespace Go.Proofs.Ytnlciginmeebhaa
open Go.Abs Go.Ds
set_option linter.unusedSimpArgs false
set_option linter.unusedVariables false
set_option maxRecDepth 20000
set_option maxHeartbeats 2000000
theorem appA (L : List Arr) (a b : Int) : encArr.row L ++ [.i .i64 a, .i .i64 b] = encArr.row (L ++ [⟨a, b⟩]) := by rw [encArr.row_append, encArr.row_one]; rfl
theorem appSv (L : List Srv) (a b : Int) : encSrv.row L ++ [.i .i64 a, .i .i64 b] = encSrv.row (L ++ [⟨a, b⟩]) := by rw [encSrv.row_append, encSrv.row_one]; rfl
theorem takeA (L : List Arr) : (encArr.row L).take (L.length * 2) = encArr.row L := List.take_of_length_le (by rw [lenA]; omega)
theorem takeSv (L : List Srv) : (encSrv.row L).take (L.length * 2) = encSrv.row L := List.take_of_length_le (by rw [lenSv]; omega)
def SrvP (p : Int) (x : AV) (p' : Int) (τ : List AB) : Prop := (p ≤ p' ∧ p' ≤ p + 200) ∧ ∃ (L : List Srv) (cap : Nat), x = .sl 2 0 L.length cap ∧ τ = [.rw ty_impl_Server (encSrv.row L) (cap * 2)] ∧ L.length ≤ 3
theorem tdiv2_ok {P : Int} (h : 1 ≤ P ∧ P ≤ 12) : 0 ≤ P.tdiv 2 ∧ P.tdiv 2 ≤ 6 := by
  rw [Int.tdiv_eq_ediv_of_nonneg (by omega)]; omega
theorem win_srv (i : Nat) (h : i < 4) : ∃ x : Srv, win [AV.i .i64 0, AV.i .i64 4, AV.i .i64 5, AV.i .i64 4, AV.i .i64 1, AV.i .i64 13, AV.i .i64 1, AV.i .i64 1] (i * 2) 2 = [.i .i64 x.B, .i .i64 x.P] := by
  match i, h with
  | 0, _ => exact ⟨⟨0, 4⟩, rfl⟩
  | 1, _ => exact ⟨⟨5, 4⟩, rfl⟩
  | 2, _ => exact ⟨⟨1, 13⟩, rfl⟩
  | 3, _ => exact ⟨⟨1, 1⟩, rfl⟩
theorem spec_l20Servers0 (B : List Nat) (p : Int) (hC : Code B) (hp : 0 ≤ p ∧ p ≤ 3700000000000) (n : Int) (hn : n ≤ 1000) (c : Nat) : CallWp Try.prog n_spec_l20Servers [.p 1 0, .i .i64 n] (rdr B c p) (fun x σ' => ∃ p' τ, σ' = rdr B c p' ++ τ ∧ SrvP p x p' τ) := by
  refine call_spec_l20Servers (by simp) ?_
  simp only [c_spec_l20Servers, go_sem, Int.reduceToNat, List.take_nil, Nat.zero_mul, Nat.reduceEqDiff, Nat.reduceAdd, Nat.reduceLT, Nat.reduceLeDiff, Nat.reduceMul, ↓reduceIte, reduceCtorEq]
  refine spec_l20Rd_pick_ (Rdr.of (τ := [_])) hC (by omega) _ (by omega) fun r1 h11 h12 _ => ?_
  simp only [go_sem, Int.reduceToNat, List.take_nil, Nat.zero_mul, Nat.reduceEqDiff, Nat.reduceAdd, Nat.reduceLT, Nat.reduceLeDiff, Nat.reduceMul, ↓reduceIte, reduceCtorEq]
  refine loop_intro (fun i : List Srv × Nat × Int × Int => ⟨[(0, .p 1 0), (1, .i .i64 n), (5, .sl 2 0 i.1.length i.2.1), (6, .i .i64 i.2.2.1)], rdr B c i.2.2.2 ++ [.rw ty_impl_Server (encSrv.row i.1) (i.2.1 * 2)]⟩)
    (fun i => ((i.1.length : Int) + i.2.2.1 ≤ 2 ∧ 0 ≤ i.2.2.1) ∧ p ≤ i.2.2.2 ∧ i.2.2.2 ≤ p + 1 + 10 * i.1.length) (fun i => i.2.2.1.toNat) ([], 0, r1, p + 1) ?_ (Wk.pick [0, 1, 2]) ?_
  · simp only [List.length_nil]; omega
  rintro ⟨L, cap, k, q⟩ ⟨⟨hk1, hk2⟩, hq1, hq2⟩
  simp only at hk1 hk2 hq1 hq2
  simp only [l0_spec_l20Servers, go_sem, Int.reduceToNat, List.take_nil, Nat.zero_mul, Nat.reduceEqDiff, Nat.reduceAdd, Nat.reduceLT, Nat.reduceLeDiff, Nat.reduceMul, ↓reduceIte, reduceCtorEq]
  refine ⟨fun hk => ?_, fun hk => ?_⟩
  · refine spec_l20Rd_pick_ (Rdr.of (τ := [_])) hC (by omega) _ (by omega) fun r2 h21 h22 _ => ?_
    simp only [go_sem, Int.reduceToNat, List.take_nil, Nat.zero_mul, Nat.reduceEqDiff, Nat.reduceAdd, Nat.reduceLT, Nat.reduceLeDiff, Nat.reduceMul, ↓reduceIte, reduceCtorEq]
    refine ⟨by omega, spec_l20Rd_pick_ (Rdr.of (τ := [_, _])) hC (by omega) _ (by omega) fun r3 h31 h32 _ => ?_⟩
    obtain ⟨P, hP, eP⟩ := rd_int [4, 6, 12, 1 + r2] r3.toNat (by simp; omega)
    simp only [List.map_cons, List.map_nil] at eP
    simp only [eP, go_sem, Int.reduceToNat, List.take_nil, Nat.zero_mul, Nat.reduceEqDiff, Nat.reduceAdd, Nat.reduceLT, Nat.reduceLeDiff, Nat.reduceMul, ↓reduceIte, reduceCtorEq]
    have hP1 : 1 ≤ P ∧ P ≤ 12 := by simp at hP; omega
    have h2 := tdiv2_ok hP1
    have mx1 : 1 ≤ (if 1 < P.tdiv 2 then P.tdiv 2 else 1) ∧ (if 1 < P.tdiv 2 then P.tdiv 2 else 1) ≤ 6 := by split <;> omega
    refine ⟨by omega, by omega, by omega, by omega, ?_⟩
    refine spec_l20Rd_pick_ (Rdr.of (τ := [_, _])) hC (by omega) _ (by omega) fun r4 h41 h42 _ => ?_
    simp only [takeSv, appSv, lenSv, go_sem, Int.reduceToNat, List.take_nil, Nat.zero_mul, Nat.reduceEqDiff, Nat.reduceAdd, Nat.reduceLT, Nat.reduceLeDiff, Nat.reduceMul, ↓reduceIte, reduceCtorEq]
    refine ⟨by omega, by omega, fun cap' hcap => ?_⟩
    exact ⟨by omega, (L ++ [⟨1 + r4, P⟩], cap', k - 1, q + 1 + 1 + 1), ⟨⟨by simp only [List.length_append, List.length_cons, List.length_nil]; omega, by simp only [List.length_append, List.length_cons, List.length_nil]; omega⟩, by simp only; omega⟩, Wk.pick [0, 1, 5]⟩
  · refine seq_join (fun i : List Srv × Nat × Int => ⟨[(5, .sl 2 0 i.1.length i.2.1)], rdr B c i.2.2 ++ [.rw ty_impl_Server (encSrv.row i.1) (i.2.1 * 2)]⟩)
      (fun i => i.1.length ≤ 3 ∧ p ≤ i.2.2 ∧ i.2.2 ≤ p + 200) ?_ ?_
    · simp only [go_sem, Int.reduceToNat, List.take_nil, Nat.zero_mul, Nat.reduceEqDiff, Nat.reduceAdd, Nat.reduceLT, Nat.reduceLeDiff, Nat.reduceMul, ↓reduceIte, reduceCtorEq]
      refine spec_l20Rd_odd_ (Rdr.of (τ := [_])) hC (by omega) _ (by omega) fun b q1 hb1 hb2 hb3 => ?_
      simp only [go_sem, Int.reduceToNat, List.take_nil, Nat.zero_mul, Nat.reduceEqDiff, Nat.reduceAdd, Nat.reduceLT, Nat.reduceLeDiff, Nat.reduceMul, ↓reduceIte, reduceCtorEq]
      refine bc_of (fun hb => ?_) (fun hb => ?_)
      · refine spec_l20Rd_pick_ (Rdr.of (τ := [_, _])) hC (by omega) _ (by omega) fun r4 h41 h42 _ => ?_
        simp only [go_sem, Int.reduceToNat, List.take_nil, Nat.zero_mul, Nat.reduceEqDiff, Nat.reduceAdd, Nat.reduceLT, Nat.reduceLeDiff, Nat.reduceMul, ↓reduceIte, reduceCtorEq]
        obtain ⟨x, ex⟩ := win_srv r4.toNat (by omega)
        simp only [ex, takeSv, appSv, lenSv, go_sem, Int.reduceToNat, List.take_nil, Nat.zero_mul, Nat.reduceEqDiff, Nat.reduceAdd, Nat.reduceLT, Nat.reduceLeDiff, Nat.reduceMul, ↓reduceIte, reduceCtorEq]
        refine ⟨by omega, by omega, by omega, fun cap' hcap => kJ_intro (L ++ [x], cap', q1 + 1) ⟨by simp only [List.length_append, List.length_cons, List.length_nil]; omega, by simp only; omega⟩ (Wk.pick [0, 1, 5])⟩
      · exact kJ_intro (L, cap, q1) ⟨by simp only; omega, by simp only; omega⟩ (Wk.pick [0, 1, 2])
    · rintro ⟨L, cap, q⟩ ⟨hl, hq1, hq2⟩
      simp only at hl hq1 hq2
      simp only [go_sem, Int.reduceToNat, List.take_nil, Nat.zero_mul, Nat.reduceEqDiff, Nat.reduceAdd, Nat.reduceLT, Nat.reduceLeDiff, Nat.reduceMul, ↓reduceIte, reduceCtorEq]
      exact Fin.plain ⟨q, _, rfl, ⟨hq1, hq2⟩, L, cap, rfl, rfl, hl⟩
theorem spec_l20Servers_ {σ : List AB} {n m o c : Nat} {B : List Nat} {p : Int} (h : Rdr ty_spec_l20Rd σ n B p m o c) (hC : Code B) (hp : 0 ≤ p ∧ p ≤ 3700000000000) (k : Int) (hk : k ≤ 1000) {K : AV → List AB → Prop}
    (hK : ∀ (L : List Srv) (cap : Nat) (p' : Int), p ≤ p' → p' ≤ p + 200 → L.length ≤ 3 → K (.sl σ.length 0 L.length cap) (σ.set n (.rw ty_spec_l20Rd [.sl m o B.length c, .i .i64 p'] 2) ++ [.rw ty_impl_Server (encSrv.row L) (cap * 2)])) :
    CallWp Try.prog n_spec_l20Servers [.p n 0, .i .i64 k] σ K := by
  refine call_rdr ty_spec_l20Rd h [] (by simp) (fun _ => [.i .i64 k]) (SrvP p) (fun _ => spec_l20Servers0 B p hC hp k hk c) ?_ (fun _ _ _ => ⟨.inl rfl, trivial⟩) (fun _ => rfl) ?_
  · rintro x p' τ ⟨_, L, cap, rfl, rfl, _⟩; exact ⟨by simp [plainRw, encSrv.row_flat], rfl⟩
  · rintro x p' τ ⟨⟨h1, h2⟩, L, cap, rfl, rfl, h3⟩
    exact hK L cap p' h1 h2 h3
def ArrP (p : Int) (x : AV) (p' : Int) (τ : List AB) : Prop := (p ≤ p' ∧ p' ≤ p + 200) ∧ ∃ (L : List Arr) (cap : Nat), x = .sl 2 0 L.length cap ∧ τ = [.rw ty_impl_Arrival (encArr.row L) (cap * 2)] ∧ L.length ≤ 21
theorem spec_l20Arrivals0 (B : List Nat) (p : Int) (hC : Code B) (hp : 0 ≤ p ∧ p ≤ 3700000000000) (n : Int) (hn : n ≤ 1000) (c : Nat) : CallWp Try.prog n_spec_l20Arrivals [.p 1 0, .i .i64 n] (rdr B c p) (fun x σ' => ∃ p' τ, σ' = rdr B c p' ++ τ ∧ ArrP p x p' τ) := by
  refine call_spec_l20Arrivals (by simp) ?_
  simp only [c_spec_l20Arrivals, go_sem, Int.reduceToNat, List.take_nil, Nat.zero_mul, Nat.reduceEqDiff, Nat.reduceAdd, Nat.reduceLT, Nat.reduceLeDiff, Nat.reduceMul, ↓reduceIte, reduceCtorEq]
  refine spec_l20Rd_pick_ (Rdr.of (τ := [_])) hC (by omega) _ (by omega) fun r1 h11 h12 _ => ?_
  simp only [go_sem, Int.reduceToNat, List.take_nil, Nat.zero_mul, Nat.reduceEqDiff, Nat.reduceAdd, Nat.reduceLT, Nat.reduceLeDiff, Nat.reduceMul, ↓reduceIte, reduceCtorEq]
  refine loop_intro (fun i : List Arr × Nat × Int × Int × Int => ⟨[(0, .p 1 0), (1, .i .i64 n), (5, .sl 2 0 i.1.length i.2.1), (6, .i .i64 i.2.2.2.2), (7, .i .i64 i.2.2.1)], rdr B c i.2.2.2.1 ++ [.rw ty_impl_Arrival (encArr.row i.1) (i.2.1 * 2)]⟩)
    (fun i => ((i.1.length : Int) + i.2.2.1 ≤ 10 ∧ 0 ≤ i.2.2.1) ∧ (p ≤ i.2.2.2.1 ∧ i.2.2.2.1 ≤ p + 101 - 10 * i.2.2.1) ∧ 0 ≤ i.2.2.2.2 ∧ i.2.2.2.2 ≤ 140 - 14 * i.2.2.1) (fun i => i.2.2.1.toNat) ([], 0, r1, p + 1, 0) ?_ (Wk.pick [0, 1, 2]) ?_
  · simp only [List.length_nil]; omega
  rintro ⟨L, cap, k, q, t⟩ ⟨⟨hk1, hk2⟩, ⟨hq1, hq2⟩, ht1, ht2⟩
  simp only at hk1 hk2 hq1 hq2 ht1 ht2
  simp only [l1_spec_l20Arrivals, go_sem, Int.reduceToNat, List.take_nil, Nat.zero_mul, Nat.reduceEqDiff, Nat.reduceAdd, Nat.reduceLT, Nat.reduceLeDiff, Nat.reduceMul, ↓reduceIte, reduceCtorEq]
  refine ⟨fun hk => ?_, fun hk => ?_⟩
  · refine spec_l20Rd_pick_ (Rdr.of (τ := [_])) hC (by omega) _ (by omega) fun r2 h21 h22 _ => ?_
    simp only [go_sem, Int.reduceToNat, List.take_nil, Nat.zero_mul, Nat.reduceEqDiff, Nat.reduceAdd, Nat.reduceLT, Nat.reduceLeDiff, Nat.reduceMul, ↓reduceIte, reduceCtorEq]
    refine ⟨by omega, fun ht => ?_, fun ht => ?_⟩
    · refine spec_l20Rd_pick_ (Rdr.of (τ := [_])) hC (by omega) _ (by omega) fun r3 h31 h32 _ => ?_
      simp only [takeA, appA, lenA, go_sem, Int.reduceToNat, List.take_nil, Nat.zero_mul, Nat.reduceEqDiff, Nat.reduceAdd, Nat.reduceLT, Nat.reduceLeDiff, Nat.reduceMul, ↓reduceIte, reduceCtorEq]
      refine ⟨by omega, by omega, fun cap' hcap => ?_⟩
      exact ⟨by omega, (L ++ [⟨t + r2, 1 + r3⟩], cap', k - 1, q + 1 + 1, t + r2), ⟨⟨by simp only [List.length_append, List.length_cons, List.length_nil]; omega, by simp only; omega, by simp only; omega⟩, by simp only; omega⟩, Wk.pick [0, 1, 4]⟩
    · exact ⟨by omega, (L, cap, k - 1, q + 1, t + r2), ⟨⟨by simp only; omega, by simp only; omega, by simp only; omega⟩, by simp only; omega⟩, Wk.pick [0, 1, 2]⟩
  · refine seq_join (fun i : List Arr × Nat × Int => ⟨[(5, .sl 2 0 i.1.length i.2.1)], rdr B c i.2.2 ++ [.rw ty_impl_Arrival (encArr.row i.1) (i.2.1 * 2)]⟩)
      (fun i => i.1.length ≤ 21 ∧ p ≤ i.2.2 ∧ i.2.2 ≤ p + 200) ?_ ?_
    · simp only [go_sem, Int.reduceToNat, List.take_nil, Nat.zero_mul, Nat.reduceEqDiff, Nat.reduceAdd, Nat.reduceLT, Nat.reduceLeDiff, Nat.reduceMul, ↓reduceIte, reduceCtorEq]
      refine spec_l20Rd_odd_ (Rdr.of (τ := [_])) hC (by omega) _ (by omega) fun b q1 hb1 hb2 hb3 => ?_
      simp only [go_sem, Int.reduceToNat, List.take_nil, Nat.zero_mul, Nat.reduceEqDiff, Nat.reduceAdd, Nat.reduceLT, Nat.reduceLeDiff, Nat.reduceMul, ↓reduceIte, reduceCtorEq]
      refine bc_of (fun hb => ?_) (fun hb => ?_)
      · refine spec_l20Rd_pick_ (Rdr.of (τ := [_])) hC (by omega) _ (by omega) fun r4 h41 h42 _ => ?_
        simp only [go_sem, Int.reduceToNat, List.take_nil, Nat.zero_mul, Nat.reduceEqDiff, Nat.reduceAdd, Nat.reduceLT, Nat.reduceLeDiff, Nat.reduceMul, ↓reduceIte, reduceCtorEq]
        refine ⟨fun h0 => ?_, fun h0 => ⟨fun h1 => ?_, fun h1 => ?_⟩⟩
        · refine spec_l20Rd_pick_ (Rdr.of (τ := [_, _])) hC (by omega) _ (by omega) fun r5 h51 h52 _ => ?_
          obtain ⟨P, hP, eP⟩ := rd_int [-1, 120] r5.toNat (by simp; omega)
          simp only [List.map_cons, List.map_nil] at eP
          simp only [eP, takeA, appA, lenA, go_sem, Int.reduceToNat, List.take_nil, Nat.zero_mul, Nat.reduceEqDiff, Nat.reduceAdd, Nat.reduceLT, Nat.reduceLeDiff, Nat.reduceMul, ↓reduceIte, reduceCtorEq]
          refine ⟨by omega, by omega, by omega, fun cap' hcap => kJ_intro (L ++ [⟨P, 1⟩], cap', q1 + 1 + 1) ⟨by simp only [List.length_append, List.length_cons, List.length_nil]; omega, by simp only; omega⟩ (Wk.pick [0, 1, 5])⟩
        · refine spec_l20Rd_pick_ (Rdr.of (τ := [_, _])) hC (by omega) _ (by omega) fun r5 h51 h52 _ => ?_
          obtain ⟨P, hP, eP⟩ := rd_int [0, 21] r5.toNat (by simp; omega)
          simp only [List.map_cons, List.map_nil] at eP
          simp only [eP, takeA, appA, lenA, go_sem, Int.reduceToNat, List.take_nil, Nat.zero_mul, Nat.reduceEqDiff, Nat.reduceAdd, Nat.reduceLT, Nat.reduceLeDiff, Nat.reduceMul, ↓reduceIte, reduceCtorEq]
          refine ⟨by omega, by omega, by omega, fun cap' hcap => kJ_intro (L ++ [⟨119, P⟩], cap', q1 + 1 + 1) ⟨by simp only [List.length_append, List.length_cons, List.length_nil]; omega, by simp only; omega⟩ (Wk.pick [0, 1, 5])⟩
        · refine loop_intro (fun i : List Arr × Nat => ⟨[(5, .sl 2 0 i.1.length i.2)], rdr B c (q1 + 1) ++ [.rw ty_impl_Arrival (encArr.row i.1) (i.2 * 2)]⟩)
            (fun i => i.1.length ≤ 21) (fun i => 21 - i.1.length) (L, cap) (by simp only; omega) (Wk.pick [0, 1, 2]) ?_
          rintro ⟨L, cap⟩ hl
          simp only at hl
          simp only [l0_spec_l20Arrivals, go_sem, Int.reduceToNat, List.take_nil, Nat.zero_mul, Nat.reduceEqDiff, Nat.reduceAdd, Nat.reduceLT, Nat.reduceLeDiff, Nat.reduceMul, ↓reduceIte, reduceCtorEq]
          refine ⟨fun hk => ?_, fun hk => ?_⟩
          · simp only [takeA, appA, lenA, go_sem, Int.reduceToNat, List.take_nil, Nat.zero_mul, Nat.reduceEqDiff, Nat.reduceAdd, Nat.reduceLT, Nat.reduceLeDiff, Nat.reduceMul, ↓reduceIte, reduceCtorEq]
            exact ⟨by omega, fun cap' hcap => ⟨(L ++ [⟨119, 1⟩], cap'), ⟨by simp only [List.length_append, List.length_cons, List.length_nil]; omega, by simp only [List.length_append, List.length_cons, List.length_nil]; omega⟩, Wk.pick [0, 1, 4]⟩⟩
          · exact kJ_intro (L, cap, q1 + 1) ⟨by simp only; omega, by simp only; omega⟩ (Wk.pick [0, 1, 2])
      · exact kJ_intro (L, cap, q1) ⟨by simp only; omega, by simp only; omega⟩ (Wk.pick [0, 1, 2])
    · rintro ⟨L, cap, q⟩ ⟨hl, hq1, hq2⟩
      simp only at hl hq1 hq2
      simp only [go_sem, Int.reduceToNat, List.take_nil, Nat.zero_mul, Nat.reduceEqDiff, Nat.reduceAdd, Nat.reduceLT, Nat.reduceLeDiff, Nat.reduceMul, ↓reduceIte, reduceCtorEq]
      exact Fin.plain ⟨q, _, rfl, ⟨hq1, hq2⟩, L, cap, rfl, rfl, hl⟩
theorem spec_l20Arrivals_ {σ : List AB} {n m o c : Nat} {B : List Nat} {p : Int} (h : Rdr ty_spec_l20Rd σ n B p m o c) (hC : Code B) (hp : 0 ≤ p ∧ p ≤ 3700000000000) (k : Int) (hk : k ≤ 1000) {K : AV → List AB → Prop}
    (hK : ∀ (L : List Arr) (cap : Nat) (p' : Int), p ≤ p' → p' ≤ p + 200 → L.length ≤ 21 → K (.sl σ.length 0 L.length cap) (σ.set n (.rw ty_spec_l20Rd [.sl m o B.length c, .i .i64 p'] 2) ++ [.rw ty_impl_Arrival (encArr.row L) (cap * 2)])) :
    CallWp Try.prog n_spec_l20Arrivals [.p n 0, .i .i64 k] σ K := by
  refine call_rdr ty_spec_l20Rd h [] (by simp) (fun _ => [.i .i64 k]) (ArrP p) (fun _ => spec_l20Arrivals0 B p hC hp k hk c) ?_ (fun _ _ _ => ⟨.inl rfl, trivial⟩) (fun _ => rfl) ?_
  · rintro x p' τ ⟨_, L, cap, rfl, rfl, _⟩; exact ⟨by simp [plainRw, encArr.row_flat], rfl⟩
  · rintro x p' τ ⟨⟨h1, h2⟩, L, cap, rfl, rfl, h3⟩
    exact hK L cap p' h1 h2 h3
def arrCells : Nat → List (List Arr × Nat) → List AV
  | _, [] => []
  | n, a :: l => .sl n 0 a.1.length a.2 :: arrCells (n + 1) l
def arrRows (l : List (List Arr × Nat)) : List AB := l.map fun a => .rw ty_impl_Arrival (encArr.row a.1) (a.2 * 2)
theorem spec_l20Open00' (C : List Nat) (c : Nat) : CallWp Try.prog n_spec_l20Open [.sl 0 0 C.length c] [.ro (encByte.row C)] (fun x σ' => x = .p 1 0 ∧ σ' = [.ro (encByte.row C), .rw ty_spec_l20Rd [.sl 0 0 (C.take 2000).length c, .i .i64 0] 2]) := by
  refine call_spec_l20Open (by simp) ?_
  simp only [c_spec_l20Open, go_sem, Int.reduceToNat, List.take_nil, Nat.zero_mul, Nat.reduceEqDiff, Nat.reduceAdd, Nat.reduceLT, Nat.reduceLeDiff, Nat.reduceMul, ↓reduceIte, reduceCtorEq]
  refine seq_join (fun _ : Unit => ⟨[(0, .sl 0 0 (C.take 2000).length c)], [.ro (encByte.row C)]⟩) (fun _ => True) ?_ fun _ _ => ?_
  · simp only [go_sem, Int.reduceToNat, List.take_nil, Nat.zero_mul, Nat.reduceEqDiff, Nat.reduceAdd, Nat.reduceLT, Nat.reduceLeDiff, Nat.reduceMul, ↓reduceIte, reduceCtorEq]
    refine ⟨fun h => ⟨by omega, by omega, kJ_intro () trivial ?_⟩, fun h => kJ_intro () trivial ?_⟩
    · have : (C.take 2000).length = 2000 := by rw [List.length_take]; omega
      rw [this]
      exact Wk.pick [0]
    · rw [List.take_of_length_le (by omega)]; exact Wk.pick [0]
  · simp only [go_sem, Int.reduceToNat, List.take_nil, Nat.zero_mul, Nat.reduceEqDiff, Nat.reduceAdd, Nat.reduceLT, Nat.reduceLeDiff, Nat.reduceMul, ↓reduceIte, reduceCtorEq]
    exact Fin.plain ⟨rfl, rfl⟩
theorem arrRows_len (l : List (List Arr × Nat)) : (arrRows l).length = l.length := List.length_map _
theorem arrRows_plain (l : List (List Arr × Nat)) : (arrRows l).all plainRw = true := by
  simp only [List.all_eq_true, arrRows, List.mem_map]
  rintro _ ⟨a, _, rfl⟩
  simp [plainRw, encArr.row_flat]
theorem arrRows_snoc (l : List (List Arr × Nat)) (a : List Arr × Nat) : arrRows (l ++ [a]) = arrRows l ++ [.rw ty_impl_Arrival (encArr.row a.1) (a.2 * 2)] := by simp [arrRows]
theorem arrCells_len : ∀ (n : Nat) (l : List (List Arr × Nat)), (arrCells n l).length = l.length
  | _, [] => rfl
  | n, a :: l => by simp only [arrCells, List.length_cons, arrCells_len (n + 1) l]
theorem arrCells_snoc : ∀ (n : Nat) (l : List (List Arr × Nat)) (a : List Arr × Nat), arrCells n (l ++ [a]) = arrCells n l ++ [.sl (n + l.length) 0 a.1.length a.2]
  | _, [], _ => rfl
  | n, b :: l, a => by simp only [List.cons_append, arrCells, arrCells_snoc (n + 1) l a, List.length_cons]; congr 4; omega
theorem arrCells_ren (ν : Nat → Nat × Nat) : ∀ (n : Nat) (l : List (List Arr × Nat)), (∀ q, q < l.length → ν (n + q) = (n + q, 0)) → (arrCells n l).map (renC ν) = arrCells n l
  | _, [], _ => rfl
  | n, a :: l, h => by
    have h0 := h 0 (by simp)
    have ih := arrCells_ren ν (n + 1) l fun q hq => by rw [show n + 1 + q = n + (q + 1) by omega]; exact h _ (by simp; omega)
    simp only [arrCells, List.map_cons, ih]
    rw [Nat.add_zero] at h0
    simp [renC, h0]
theorem arrCells_bel (N : Nat) : ∀ (n : Nat) (l : List (List Arr × Nat)), n + l.length ≤ N → (arrCells n l).all (Go.Abs.below N) = true
  | _, [], _ => rfl
  | n, a :: l, h => by
    simp only [List.length_cons] at h
    simp only [arrCells, List.all_cons, arrCells_bel N (n + 1) l (by omega), Go.Abs.below, Bool.and_true, decide_eq_true_eq]
    omega
theorem arrCells_rd : ∀ (n : Nat) (l : List (List Arr × Nat)) (k : Nat) (h : k < l.length), rd (arrCells n l) k = .sl (n + k) 0 l[k].1.length l[k].2
  | n, a :: l, 0, _ => rfl
  | n, a :: l, k + 1, h => by
    have := arrCells_rd (n + 1) l k (by simpa using h)
    simp only [arrCells, List.getElem_cons_succ, show n + (k + 1) = n + 1 + k by omega]
    rw [← this]; rfl
theorem closed_code (C : List Nat) : Closed [.ro (encByte.row C)] := by
  intro n B h
  match n, h with
  | 0, h => injection h with h; subst h; exact Enc.row_bel _ _ _
theorem arr_two (AC : List (List Arr × Nat)) (r o : AB) : (arrRows AC ++ [r, o])[AC.length + 1]? = some o := by
  have := at_new (arrRows AC) [r, o] 1
  rw [arrRows_len] at this
  rw [this]; rfl
theorem arr_take (n : Nat) (AC : List (List Arr × Nat)) : (arrCells n AC).take AC.length = arrCells n AC := List.take_of_length_le (by rw [arrCells_len]; omega)
theorem Wk.eqv {L nt : Nat} {T T1 : List (Nat × AV)} {σ σ' τ τ' : List AB} (h : Wk L nt ⟨T, σ'⟩ ⟨T1, τ'⟩) (e1 : σ = σ') (e2 : τ = τ') : Wk L nt ⟨T, σ⟩ ⟨T1, τ⟩ := by subst e1; subst e2; exact h
theorem Wk.arr {nt : Nat} {T T1 : List (Nat × AV)} {C : List Nat} {c cs cx cap' cA : Nat} {q : Int} {S : List Task} {X : List Srv} {AC : List (List Arr × Nat)} {A : List Arr} {o : AB}
    (hT : ∀ p ∈ T1, belowT (AC.length + 6) p.2 = true ∧ sees (gR 1 (nuE 4 (AC.length + 1) [(false, 0), (false, 1), (false, 2), (true, 1)] [])) (Go.Abs.look T p.1) p.2) :
    Wk 1 nt ⟨T, .ro (encByte.row C) :: .rw ty_spec_l20Rd [.sl 0 0 (C.take 2000).length c, .i .i64 q] 2 :: .rw ty_impl_Task (encTask.row S) (cs * 3) :: .rw ty_impl_Server (encSrv.row X) (cx * 2) :: .dead :: (arrRows AC ++ [.rw ty_impl_Arrival (encArr.row A) (cA * 2), o, .rw ty_sl_impl_Arrival (arrCells 5 AC ++ [.sl (AC.length + 1 + 1 + 1 + 1 + 1) 0 A.length cA]) cap'])⟩
      ⟨T1, .ro (encByte.row C) :: .rw ty_spec_l20Rd [.sl 0 0 (C.take 2000).length c, .i .i64 q] 2 :: .rw ty_impl_Task (encTask.row S) (cs * 3) :: .rw ty_impl_Server (encSrv.row X) (cx * 2) :: .rw ty_sl_impl_Arrival (arrCells 5 (AC ++ [(A, cA)])) cap' :: arrRows (AC ++ [(A, cA)])⟩ := by
  have hl : (arrRows AC ++ [AB.rw ty_impl_Arrival (encArr.row A) (cA * 2)]).length = AC.length + 1 := by simp [arrRows_len]
  refine Wk.eqv (Wk.pickE (σ := [.ro (encByte.row C)]) (E := [.rw ty_spec_l20Rd [.sl 0 0 (C.take 2000).length c, .i .i64 q] 2, .rw ty_impl_Task (encTask.row S) (cs * 3), .rw ty_impl_Server (encSrv.row X) (cx * 2), .dead])
    (R := arrRows AC ++ [.rw ty_impl_Arrival (encArr.row A) (cA * 2)]) (G := [o, .rw ty_sl_impl_Arrival (arrCells 5 AC ++ [.sl (AC.length + 1 + 1 + 1 + 1 + 1) 0 A.length cA]) cap'])
    (E1 := [.rw ty_spec_l20Rd [.sl 0 0 (C.take 2000).length c, .i .i64 q] 2, .rw ty_impl_Task (encTask.row S) (cs * 3), .rw ty_impl_Server (encSrv.row X) (cx * 2), .rw ty_sl_impl_Arrival (arrCells 5 (AC ++ [(A, cA)])) cap']) (G1 := [])
    (closed_code C) (Nat.le_refl 1) [(false, 0), (false, 1), (false, 2), (true, 1)] [] rfl ?_ ?_ rfl ?_ ?_) ?_ ?_
  · rw [List.all_append, arrRows_plain]; simp [plainRw, encArr.row_flat]
  · have h0 : ∀ q, q < (AC ++ [(A, cA)]).length → gR 1 (nuE 4 (AC.length + 1) [(false, 0), (false, 1), (false, 2), (true, 1)] []) (5 + q) = (5 + q, 0) := fun q hq => by
      have := nuE_row 1 4 (AC.length + 1) (νE := [(false, 0), (false, 1), (false, 2), (true, 1)]) (νG := []) q rfl (by simpa using hq)
      rw [show 5 + q = 1 + (4 + q) by omega]; exact this
    rw [hl]
    simp only [List.length_cons, List.length_nil, List.map_cons, List.map_nil, renB, Enc.row_ren, arrCells_ren _ 5 _ h0]
    rw [arrCells_snoc, show 5 + AC.length = AC.length + 1 + 1 + 1 + 1 + 1 by omega]
    simp [renC, gR_lt, pickX]
  · rw [hl]
    have e : [AB.ro (encByte.row C)].length + ([AB.rw ty_spec_l20Rd [.sl 0 0 (C.take 2000).length c, .i .i64 q] 2, AB.rw ty_impl_Task (encTask.row S) (cs * 3), AB.rw ty_impl_Server (encSrv.row X) (cx * 2), AB.rw ty_sl_impl_Arrival (arrCells 5 (AC ++ [(A, cA)])) cap'] ++ (arrRows AC ++ [AB.rw ty_impl_Arrival (encArr.row A) (cA * 2)] ++ [])).length = AC.length + 6 := by simp [arrRows_len]; omega
    rw [e]; exact hT
  · have hb := arrCells_bel (AC.length + 6) 5 (AC ++ [(A, cA)]) (by simp; omega)
    have hr : (arrRows AC).all (Go.Abs.cellsIn (0 + 1 + (0 + 1 + 1 + 1 + 1 + (AC.length + (0 + 1) + 0)))) = true := by
      simp only [List.all_eq_true, arrRows, List.mem_map]
      rintro _ ⟨a, _, rfl⟩
      exact Enc.row_bel _ _ _
    simp only [List.length_cons, List.length_nil, List.length_append, arrRows_len, List.all_append, List.all_cons, List.all_nil, hr]
    rw [show 0 + 1 + (0 + 1 + 1 + 1 + 1 + (AC.length + (0 + 1) + 0)) = AC.length + 6 by omega]
    simp [Go.Abs.cellsIn, Enc.row_bel, Go.Abs.below, hb]
  · simp
  · simp [arrRows_snoc]
theorem nuArr (n : Nat) : gR 1 (nuE 4 (n + 1) [(false, 0), (false, 1), (false, 2), (true, 1)] []) 1 = (1, 0) ∧ gR 1 (nuE 4 (n + 1) [(false, 0), (false, 1), (false, 2), (true, 1)] []) 2 = (2, 0) ∧ gR 1 (nuE 4 (n + 1) [(false, 0), (false, 1), (false, 2), (true, 1)] []) 3 = (3, 0) ∧
    gR 1 (nuE 4 (n + 1) [(false, 0), (false, 1), (false, 2), (true, 1)] []) 4 = (n + 2 + 1 + 1 + 1 + 1 + 1, 0) := by
  refine ⟨rfl, rfl, rfl, ?_⟩
  have := nuE_new 1 4 (n + 1) (νE := [(false, 0), (false, 1), (false, 2), (true, 1)]) (νG := []) 3 (by simp)
  rw [show (4 : Nat) = 1 + 3 by rfl, this]
  simp [atE]; omega
theorem arr_cell {a b c d e : AB} {AC : List (List Arr × Nat)} {τ : List AB} {k : Nat} (h : k < AC.length) : cellsOf (a :: b :: c :: d :: e :: (arrRows AC ++ τ)) (5 + k) = some (encArr.row AC[k].1) := by
  have : (a :: b :: c :: d :: e :: (arrRows AC ++ τ))[5 + k]? = some (.rw ty_impl_Arrival (encArr.row AC[k].1) (AC[k].2 * 2)) := by
    rw [show 5 + k = k + 1 + 1 + 1 + 1 + 1 by omega]
    simp only [List.getElem?_cons_succ]
    rw [List.getElem?_append_left (by rw [arrRows_len]; exact h)]
    simp [arrRows, h]
  simp only [cellsOf, this]
theorem arr_last {a b c d e : AB} {AC : List (List Arr × Nat)} {ty : TypeId} {cs : List AV} {r : Nat} : cellsOf (a :: b :: c :: d :: e :: (arrRows AC ++ [.rw ty cs r])) (AC.length + 1 + 1 + 1 + 1 + 1) = some cs := by
  have : (a :: b :: c :: d :: e :: (arrRows AC ++ [AB.rw ty cs r]))[AC.length + 1 + 1 + 1 + 1 + 1]? = some (.rw ty cs r) := by
    simp only [List.getElem?_cons_succ]
    rw [List.getElem?_append_right (by rw [arrRows_len]; omega), arrRows_len, Nat.sub_self]; rfl
  simp only [cellsOf, this]
theorem arr_rd {b c d : AB} {C : List Nat} {AC : List (List Arr × Nat)} {τ : List AB} {cap r : Nat} : RdA (.ro (encByte.row C) :: b :: c :: d :: .rw ty_sl_impl_Arrival (arrCells 5 AC) r :: (arrRows AC ++ τ)) (.sl 4 0 (AC.map (·.1)).length cap) (AC.map (·.1)) := by
  refine .inl ⟨4, 0, cap, arrCells 5 AC, rfl, rfl, by rw [arrCells_len, List.length_map]; omega, fun k hk => ?_⟩
  have hk' : k < AC.length := by simpa using hk
  rw [Nat.zero_add, arrCells_rd 5 AC k hk', List.getElem_map]
  exact Rd.own (arr_cell hk')
def RunSvD (x : AV) (σ : List AB) : Prop := ∃ (S : List Task) (L : List Job) (X : List Srv) (AA : List (List Arr)) (a b d e ca cb cd ce : Nat), x = .tup [.sl a 0 S.length ca, .sl b 0 L.length cb, .sl d 0 X.length cd, .sl e 0 AA.length ce] ∧
  cellsOf σ a = some (encTask.row S) ∧ cellsOf σ b = some (encJob.row L) ∧ cellsOf σ d = some (encSrv.row X) ∧ RdA σ (.sl e 0 AA.length ce) AA ∧ S.length ≤ 8 ∧ L.length ≤ 62 ∧ X.length ≤ 3 ∧ (X.length ≤ AA.length ∧ AA.length ≤ 4) ∧ ∀ A ∈ AA, A.length ≤ 21
theorem spec_DrawRunServers0 (C : List Nat) (hC : ∀ x ∈ C, x < 256) (c : Nat) : CallWp Try.prog n_spec_DrawRunServers [.sl 0 0 C.length c] [.ro (encByte.row C)] RunSvD := by
  refine call_spec_DrawRunServers (by simp) ?_
  simp only [c_spec_DrawRunServers, go_sem, Int.reduceToNat, List.take_nil, Nat.zero_mul, Nat.reduceEqDiff, Nat.reduceAdd, Nat.reduceLT, Nat.reduceLeDiff, Nat.reduceMul, ↓reduceIte, reduceCtorEq]
  refine (spec_l20Open00' C c).mono ?_
  rintro x σ' _ ⟨rfl, rfl⟩
  simp only [go_sem, Int.reduceToNat, List.take_nil, Nat.zero_mul, Nat.reduceEqDiff, Nat.reduceAdd, Nat.reduceLT, Nat.reduceLeDiff, Nat.reduceMul, ↓reduceIte, reduceCtorEq]
  refine spec_l20Set_ (Rdr.take (τ := [])) (Code.take hC) (by omega) _ (by omega) fun S cs p1 h11 h12 hS8 hS _ => ?_
  simp only [go_sem, Int.reduceToNat, List.take_nil, Nat.zero_mul, Nat.reduceEqDiff, Nat.reduceAdd, Nat.reduceLT, Nat.reduceLeDiff, Nat.reduceMul, ↓reduceIte, reduceCtorEq]
  refine spec_l20Servers_ (Rdr.take (τ := [_])) (Code.take hC) (by omega) _ (by omega) fun X cx p2 h21 h22 hX3 => ?_
  simp only [go_sem, Int.reduceToNat, List.take_nil, Nat.zero_mul, Nat.reduceEqDiff, Nat.reduceAdd, Nat.reduceLT, Nat.reduceLeDiff, Nat.reduceMul, ↓reduceIte, reduceCtorEq]
  refine loop_intro (fun i : List (List Arr × Nat) × Nat × Int => ⟨[(6, .p 1 0), (7, .sl 2 0 S.length cs), (8, .sl 3 0 X.length cx), (9, .sl 4 0 i.1.length i.2.1), (10, .i .i64 i.1.length)],
      [.ro (encByte.row C)] ++ ([.rw ty_spec_l20Rd [.sl 0 0 (C.take 2000).length c, .i .i64 i.2.2] 2, .rw ty_impl_Task (encTask.row S) (cs * 3), .rw ty_impl_Server (encSrv.row X) (cx * 2), .rw ty_sl_impl_Arrival (arrCells 5 i.1) i.2.1] ++ arrRows i.1)⟩)
    (fun i => i.1.length ≤ X.length ∧ (∀ a ∈ i.1, a.1.length ≤ 21) ∧ p2 ≤ i.2.2 ∧ i.2.2 ≤ p2 + 200 * i.1.length) (fun i => X.length - i.1.length) ([], 0, p2) ?_ (by simp only [arrCells, arrRows, List.map_nil, List.append_nil, List.length_nil]; exact Wk.pick [0, 1, 2, 3, 4]) ?_
  · simp only [List.length_nil]; refine ⟨by omega, by simp, by omega⟩
  rintro ⟨AC, cap, q⟩ ⟨hl, hA, hq1, hq2⟩
  simp only at hl hA hq1 hq2
  simp only [l0_spec_DrawRunServers, go_sem, Int.reduceToNat, List.take_nil, Nat.zero_mul, Nat.reduceEqDiff, Nat.reduceAdd, Nat.reduceLT, Nat.reduceLeDiff, Nat.reduceMul, ↓reduceIte, reduceCtorEq]
  refine ⟨fun hk => ?_, fun hk => ?_⟩
  · refine spec_l20Arrivals_ Rdr.take (Code.take hC) (by omega) _ (by omega) fun A cA q' hq3 hq4 hA21 => ?_
    simp only [List.append_assoc, arr_two, arr_take, arrRows_len, arrCells_len, go_sem, Int.reduceToNat, List.take_nil, Nat.zero_mul, Nat.reduceEqDiff, Nat.reduceAdd, Nat.reduceLT, Nat.reduceLeDiff, Nat.reduceMul, ↓reduceIte, reduceCtorEq]
    refine ⟨by omega, fun cap' hcap => ⟨by omega, (AC ++ [(A, cA)], cap', q'), ⟨⟨by simp only [List.length_append, List.length_cons, List.length_nil]; omega, ?_, by simp only [List.length_append, List.length_cons, List.length_nil]; omega⟩, by simp only [List.length_append, List.length_cons, List.length_nil]; omega⟩, ?_⟩⟩
    · intro a ha
      rcases List.mem_append.1 ha with ha | ha
      · exact hA a ha
      · rw [List.mem_singleton.1 ha]; exact hA21
    · refine Wk.arr ?_
      obtain ⟨n1, n2, n3, n4⟩ := nuArr AC.length
      intro p hp
      simp only [List.mem_cons, List.not_mem_nil, or_false] at hp
      rcases hp with rfl | rfl | rfl | rfl | rfl <;> simp [look_cons, Go.Abs.belowT, Go.Abs.below1, Go.Abs.below, Go.Abs.sees, Go.Abs.ren, Go.Abs.ren1, Go.Abs.renC, n1, n2, n3, n4]
  · refine seq_join (fun i : List (List Arr × Nat) × Nat × Int => ⟨[(6, .p 1 0), (7, .sl 2 0 S.length cs), (8, .sl 3 0 X.length cx), (9, .sl 4 0 i.1.length i.2.1)],
      [.ro (encByte.row C)] ++ ([.rw ty_spec_l20Rd [.sl 0 0 (C.take 2000).length c, .i .i64 i.2.2] 2, .rw ty_impl_Task (encTask.row S) (cs * 3), .rw ty_impl_Server (encSrv.row X) (cx * 2), .rw ty_sl_impl_Arrival (arrCells 5 i.1) i.2.1] ++ arrRows i.1)⟩)
      (fun i => (X.length ≤ i.1.length ∧ i.1.length ≤ 4) ∧ (∀ a ∈ i.1, a.1.length ≤ 21) ∧ p2 ≤ i.2.2 ∧ i.2.2 ≤ p2 + 900) ?_ ?_
    · simp only [go_sem, Int.reduceToNat, List.take_nil, Nat.zero_mul, Nat.reduceEqDiff, Nat.reduceAdd, Nat.reduceLT, Nat.reduceLeDiff, Nat.reduceMul, ↓reduceIte, reduceCtorEq]
      refine spec_l20Rd_odd_ Rdr.take (Code.take hC) (by omega) _ (by omega) fun b q1 hb1 hb2 hb3 => ?_
      simp only [go_sem, Int.reduceToNat, List.take_nil, Nat.zero_mul, Nat.reduceEqDiff, Nat.reduceAdd, Nat.reduceLT, Nat.reduceLeDiff, Nat.reduceMul, ↓reduceIte, reduceCtorEq]
      refine bc_of (fun hb => ?_) (fun hb => ?_)
      · simp only [List.append_assoc, arr_two, arr_take, arrRows_len, arrCells_len, go_sem, Int.reduceToNat, List.take_nil, Nat.zero_mul, Nat.reduceEqDiff, Nat.reduceAdd, Nat.reduceLT, Nat.reduceLeDiff, Nat.reduceMul, ↓reduceIte, reduceCtorEq]
        refine ⟨by omega, fun cap' hcap => kJ_intro (AC ++ [([], 0)], cap', q1) ⟨by simp only [List.length_append, List.length_cons, List.length_nil]; omega, ?_, by simp only; omega⟩ ?_⟩
        · intro a ha
          rcases List.mem_append.1 ha with ha | ha
          · exact hA a ha
          · rw [List.mem_singleton.1 ha]; simp
        · refine Wk.arr (A := []) (cA := 0) ?_
          obtain ⟨n1, n2, n3, n4⟩ := nuArr AC.length
          intro p hp
          simp only [List.mem_cons, List.not_mem_nil, or_false] at hp
          rcases hp with rfl | rfl | rfl | rfl <;> simp [look_cons, Go.Abs.belowT, Go.Abs.below1, Go.Abs.below, Go.Abs.sees, Go.Abs.ren, Go.Abs.ren1, Go.Abs.renC, n1, n2, n3, n4]
      · refine kJ_intro (AC, cap, q1) ⟨by simp only; omega, hA, by simp only; omega⟩ (Wk.keep ?_)
        intro p hp
        simp only [List.mem_cons, List.not_mem_nil, or_false] at hp
        rcases hp with rfl | rfl | rfl | rfl <;> simp [look_cons]
    · rintro ⟨AC, cap, q⟩ ⟨hl, hA, hq1, hq2⟩
      simp only at hl hA hq1 hq2
      simp only [go_sem, Int.reduceToNat, List.take_nil, Nat.zero_mul, Nat.reduceEqDiff, Nat.reduceAdd, Nat.reduceLT, Nat.reduceLeDiff, Nat.reduceMul, ↓reduceIte, reduceCtorEq]
      refine spec_SetValid_ (L := S) (by omega) (Rd.own rfl) ?_
      simp only [not_true_eq_false, not_false_eq_true, decide_true, decide_false, Bool.not_true, Bool.not_false, false_implies, true_implies, and_true, true_and, Bool.false_eq_true, Bool.true_eq_false, implies_true, Bool.not_not, Classical.not_not, go_sem, Int.reduceToNat, List.take_nil, Nat.zero_mul, Nat.reduceEqDiff, Nat.reduceAdd, Nat.reduceLT, Nat.reduceLeDiff, Nat.reduceMul, ↓reduceIte, reduceCtorEq]
      have hlen : (AC.map (·.1)).length = AC.length := List.length_map _
      refine ⟨fun hv => ?_, fun hv => ?_⟩
      · refine Fin.plain ⟨S, [], X, AC.map (·.1), 2, AC.length + 1 + 1 + 1 + 1 + 1, 3, 4, cs, 0, cx, cap, by simp [arrRows_len], rfl, arr_last, rfl, arr_rd, hS8, by simp, hX3, by omega, ?_⟩
        intro A hA'
        obtain ⟨a, h1, rfl⟩ := List.mem_map.1 hA'
        exact hA a h1
      · refine spec_l20Jobs_ Rdr.take (Code.take hC) (by omega) hv (Sl.own rfl (by decide)) _ (by omega) fun L cap' p5 h51 h52 hL62 hL => ?_
        simp only [go_sem, Int.reduceToNat, List.take_nil, Nat.zero_mul, Nat.reduceEqDiff, Nat.reduceAdd, Nat.reduceLT, Nat.reduceLeDiff, Nat.reduceMul, ↓reduceIte, reduceCtorEq]
        refine Fin.plain ⟨S, L, X, AC.map (·.1), 2, AC.length + 1 + 1 + 1 + 1 + 1, 3, 4, cs, cap', cx, cap, by simp [arrRows_len], rfl, arr_last, rfl, arr_rd, hS8, by omega, hX3, by omega, ?_⟩
        intro A hA'
        obtain ⟨a, h1, rfl⟩ := List.mem_map.1 hA'
        exact hA a h1
end Go.Proofs.Ytnlciginmeebhaa
