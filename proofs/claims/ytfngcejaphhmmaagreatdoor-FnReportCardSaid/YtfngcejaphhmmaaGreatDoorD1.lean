import Derived.Test.YtfngcejaphhmmaaGreatDoorAbsY
import Derived.Test.YtfngcejaphhmmaaGreatDoorC1
namespace Go.Proofs.YtfngcejaphhmmaaGreatDoor
open Go.Abs Go.Ds
set_option linter.unusedSimpArgs false
set_option linter.unusedVariables false
set_option maxRecDepth 20000
theorem lenB (L : List Nat) : (encByte.row L).length = L.length := by simpa [encByte] using encByte.row_length L
theorem rdB {L : List Nat} {k : Nat} (h : k < L.length) : rd (encByte.row L) k = .i .u8 ((L[k]'h : Nat) : Int) := by simpa [encByte, rd] using encByte.rd L k 0 h (by decide)
abbrev rdr (B : List Nat) (c : Nat) (p : Int) : List AB := [.ro (encByte.row B), .rw ty_spec_l20Rd [.sl 0 0 B.length c, .i .i64 p] 2]
structure Code (B : List Nat) : Prop where
  len : B.length ≤ 2000
  byte : ∀ x ∈ B, x < 256
def Picked (k p : Int) (x : AV) (p' : Int) (τ : List AB) : Prop := p' = p + 1 ∧ τ = [] ∧ ∃ r, x = .i .i64 r ∧ 0 ≤ r ∧ (1 ≤ k → r < k) ∧ (k < 1 → r = 0)
theorem spec_l20Rd_pick0 (B : List Nat) (p : Int) (hC : Code B) (hp : 0 ≤ p ∧ p ≤ 4000000000000) (k : Int) (hk : k ≤ 4611686018427387904) (c : Nat) : CallWp Tryz.prog n_spec_l20Rd_pick [.p 1 0, .i .i64 k] (rdr B c p) (fun x σ' => ∃ p' τ, σ' = rdr B c p' ++ τ ∧ Picked k p x p' τ) := by
  obtain ⟨hl, hB⟩ := hC
  obtain ⟨h0, h1⟩ := hp
  refine call_spec_l20Rd_pick (by simp) ?_
  have fin : ∀ r : Int, 0 ≤ r → (1 ≤ k → r < k) → (k < 1 → r = 0) → Fin 2 (rdr B c (p + 1)) (.i .i64 r) fun x σ' => ∃ p' τ, σ' = rdr B c p' ++ τ ∧ Picked k p x p' τ := fun r hr1 hr2 hr3 => Fin.plain ⟨p + 1, [], rfl, rfl, rfl, r, rfl, hr1, hr2, hr3⟩
  simp only [c_spec_l20Rd_pick, Int.add_sub_cancel, go_sem, Int.reduceToNat, List.take_nil, Nat.zero_mul, Nat.reduceEqDiff, Nat.reduceAdd, Nat.reduceLT, Nat.reduceLeDiff, Nat.reduceMul, ↓reduceIte, reduceCtorEq]
  refine ⟨by omega, fun hk1 => ⟨fun hN => fin 0 (by omega) (by omega) (by omega), fun hN => ⟨by omega, fun hlt => ?_, fun hge => ?_⟩⟩, fun hk1 => fin 0 (by omega) (by omega) (by omega)⟩
  · have hi : p.toNat < B.length := by omega
    have hb := hB _ (List.getElem_mem hi)
    simp only [go_sem, Int.reduceToNat, List.take_nil, Nat.zero_mul, Nat.reduceEqDiff, Nat.reduceAdd, Nat.reduceLT, Nat.reduceLeDiff, Nat.reduceMul, ↓reduceIte, reduceCtorEq, lenB, rdB hi]
    refine ⟨by omega, hi, by omega, by omega, fin _ (Int.tmod_nonneg _ (by omega)) (fun _ => Int.tmod_lt_of_pos _ (by omega)) (by omega)⟩
  · have hpos : (0 : Int) < B.length := by omega
    have a1 := Int.tmod_nonneg (a := p) B.length h0
    have a2 := Int.tmod_lt_of_pos p hpos
    have b1 := Int.tmod_nonneg (a := p * 7 + 3) B.length (by omega)
    have b2 := Int.tmod_lt_of_pos (p * 7 + 3) hpos
    have d1 : 0 ≤ p.tdiv B.length := Int.tdiv_nonneg h0 (by omega)
    have d2 : p.tdiv B.length ≤ p := Int.tdiv_le_self _ h0
    have i1 : (p.tmod B.length).toNat < B.length := by omega
    have i2 : ((p * 7 + 3).tmod B.length).toNat < B.length := by omega
    have x1 := hB _ (List.getElem_mem i1)
    have x2 := hB _ (List.getElem_mem i2)
    simp only [go_sem, Int.reduceToNat, List.take_nil, Nat.zero_mul, Nat.reduceEqDiff, Nat.reduceAdd, Nat.reduceLT, Nat.reduceLeDiff, Nat.reduceMul, ↓reduceIte, reduceCtorEq, lenB, rdB i1, rdB i2]
    generalize B[(p.tmod B.length).toNat] = u at *
    generalize B[((p * 7 + 3).tmod B.length).toNat] = v at *
    generalize p.tdiv B.length = d at *
    have hX : 0 ≤ (u : Int) * 131 + v * 1117 + p * 29 + d * 53 := by omega
    have hX2 : (u : Int) * 131 + v * 1117 + p * 29 + d * 53 ≤ 1099511627776000 := by omega
    generalize (u : Int) * 131 + v * 1117 + p * 29 + d * 53 = X at *
    have y1 : 0 ≤ X.tdiv 64 := Int.tdiv_nonneg hX (by decide)
    have y2 : X.tdiv 64 ≤ X := Int.tdiv_le_self _ hX
    refine ⟨hN, ⟨a1, a2⟩, i1, by omega, by omega, by omega, by omega, hN, ⟨b1, b2⟩, i2, by omega, by omega, by omega, by omega, by omega, hN, by omega, by omega, by omega, by decide, by omega, by omega, by omega, ?_⟩
    exact fin _ (Int.tmod_nonneg _ (by omega)) (fun _ => Int.tmod_lt_of_pos _ (by omega)) (by omega)
theorem Rdr.of {B : List Nat} {c : Nat} {p : Int} {τ : List AB} : Rdr ty_spec_l20Rd (rdr B c p ++ τ) 1 B p 0 0 c := by
  refine ⟨rfl, by decide, encByte.row B, rfl, by rw [lenB]; omega, ?_⟩
  rw [← lenB B]; simp [Abs.win]
theorem spec_l20Rd_pick_ {σ : List AB} {n m o c : Nat} {B : List Nat} {p : Int} (h : Rdr ty_spec_l20Rd σ n B p m o c) (hC : Code B) (hp : 0 ≤ p ∧ p ≤ 4000000000000) (k : Int) (hk : k ≤ 4611686018427387904) {K : AV → List AB → Prop}
    (hK : ∀ r : Int, 0 ≤ r → (1 ≤ k → r < k) → (k < 1 → r = 0) → K (.i .i64 r) (σ.set n (.rw ty_spec_l20Rd [.sl m o B.length c, .i .i64 (p + 1)] 2))) : CallWp Tryz.prog n_spec_l20Rd_pick [.p n 0, .i .i64 k] σ K := by
  refine call_rdr ty_spec_l20Rd h [] (by simp) (fun _ => [.i .i64 k]) (Picked k p) (fun _ => spec_l20Rd_pick0 B p hC hp k hk c) ?_ (fun _ _ _ => ⟨.inl rfl, trivial⟩) (fun _ => rfl) ?_
  · rintro x p' τ ⟨rfl, rfl, r, rfl, _⟩; exact ⟨rfl, rfl⟩
  · rintro x p' τ ⟨rfl, rfl, r, rfl, h1, h2, h3⟩
    rw [List.append_nil]; exact hK r h1 h2 h3
theorem rd_int (l : List Int) (i : Nat) (h : i < l.length) : ∃ x ∈ l, rd (l.map fun n => AV.i .i64 n) i = .i .i64 x :=
  ⟨l[i], List.getElem_mem h, by simp [rd, h]⟩
def OddP (n p : Int) (x : AV) (p' : Int) (τ : List AB) : Prop := (p ≤ p' ∧ p' ≤ p + 1) ∧ τ = [] ∧ ∃ b, x = .b b ∧ (n ≤ 0 → b = false)
theorem spec_l20Rd_odd0 (B : List Nat) (p : Int) (hC : Code B) (hp : 0 ≤ p ∧ p ≤ 3900000000000) (n : Int) (hn : n ≤ 1000) (c : Nat) : CallWp Tryz.prog n_spec_l20Rd_odd [.p 1 0, .i .i64 n] (rdr B c p) (fun x σ' => ∃ p' τ, σ' = rdr B c p' ++ τ ∧ OddP n p x p' τ) := by
  refine call_spec_l20Rd_odd (by simp) ?_
  simp only [c_spec_l20Rd_odd, go_sem, Int.reduceToNat, List.take_nil, Nat.zero_mul, Nat.reduceEqDiff, Nat.reduceAdd, Nat.reduceLT, Nat.reduceLeDiff, Nat.reduceMul, ↓reduceIte, reduceCtorEq]
  refine ⟨fun h => ?_, fun h => ?_⟩
  · refine spec_l20Rd_pick_ (Rdr.of (τ := [])) hC (by omega) _ (by omega) fun r _ _ _ => ?_
    simp only [go_sem, Int.reduceToNat, List.take_nil, Nat.zero_mul, Nat.reduceEqDiff, Nat.reduceAdd, Nat.reduceLT, Nat.reduceLeDiff, Nat.reduceMul, ↓reduceIte, reduceCtorEq]
    exact ⟨by omega, Fin.plain ⟨p + 1, [], rfl, by omega, rfl, _, rfl, by omega⟩⟩
  · exact Fin.plain ⟨p, [], rfl, by omega, rfl, _, rfl, fun _ => rfl⟩
theorem spec_l20Rd_odd_ {σ : List AB} {n m o c : Nat} {B : List Nat} {p : Int} (h : Rdr ty_spec_l20Rd σ n B p m o c) (hC : Code B) (hp : 0 ≤ p ∧ p ≤ 3900000000000) (k : Int) (hk : k ≤ 1000) {K : AV → List AB → Prop}
    (hK : ∀ (b : Bool) (p' : Int), p ≤ p' → p' ≤ p + 1 → (k ≤ 0 → b = false) → K (.b b) (σ.set n (.rw ty_spec_l20Rd [.sl m o B.length c, .i .i64 p'] 2))) : CallWp Tryz.prog n_spec_l20Rd_odd [.p n 0, .i .i64 k] σ K := by
  refine call_rdr ty_spec_l20Rd h [] (by simp) (fun _ => [.i .i64 k]) (OddP k p) (fun _ => spec_l20Rd_odd0 B p hC hp k hk c) ?_ (fun _ _ _ => ⟨.inl rfl, trivial⟩) (fun _ => rfl) ?_
  · rintro x p' τ ⟨_, rfl, b, rfl, _⟩; exact ⟨rfl, rfl⟩
  · rintro x p' τ ⟨⟨h1, h2⟩, rfl, b, rfl, h3⟩
    rw [List.append_nil]; exact hK b p' h1 h2 h3
def wildT (t : Task) : Prop := (-1 ≤ t.C ∧ t.C ≤ 20) ∧ (-1 ≤ t.D ∧ t.D ≤ 20) ∧ (-1 ≤ t.P ∧ t.P ≤ 20)
def TaskP (n p : Int) (x : AV) (p' : Int) (τ : List AB) : Prop := (p ≤ p' ∧ p' ≤ p + 10) ∧ τ = [] ∧ ∃ t : Task, x = .agg (encTask.f t) ∧ wildT t ∧ (n ≤ 0 → t.ok)
theorem spec_l20Task0 (B : List Nat) (p : Int) (hC : Code B) (hp : 0 ≤ p ∧ p ≤ 3800000000000) (n : Int) (hn : n ≤ 1000) (c : Nat) : CallWp Tryz.prog n_spec_l20Task [.p 1 0, .i .i64 n] (rdr B c p) (fun x σ' => ∃ p' τ, σ' = rdr B c p' ++ τ ∧ TaskP n p x p' τ) := by
  refine call_spec_l20Task (by simp) ?_
  simp only [c_spec_l20Task, go_sem, Int.reduceToNat, List.take_nil, Nat.zero_mul, Nat.reduceEqDiff, Nat.reduceAdd, Nat.reduceLT, Nat.reduceLeDiff, Nat.reduceMul, ↓reduceIte, reduceCtorEq]
  refine spec_l20Rd_pick_ (Rdr.of (τ := [_])) hC (by omega) _ (by omega) fun r1 h11 h12 _ => ?_
  simp only [go_sem, Int.reduceToNat, List.take_nil, Nat.zero_mul, Nat.reduceEqDiff, Nat.reduceAdd, Nat.reduceLT, Nat.reduceLeDiff, Nat.reduceMul, ↓reduceIte, reduceCtorEq]
  refine ⟨by omega, spec_l20Rd_pick_ (Rdr.of (τ := [_, _])) hC (by omega) _ (by omega) fun r2 h21 h22 _ => ?_⟩
  obtain ⟨P, hP, eP⟩ := rd_int [2, 3, 4, 6, 8, 12, 1 + r1, 5] r2.toNat (by simp; omega)
  simp only [List.map_cons, List.map_nil] at eP
  simp only [eP, go_sem, Int.reduceToNat, List.take_nil, Nat.zero_mul, Nat.reduceEqDiff, Nat.reduceAdd, Nat.reduceLT, Nat.reduceLeDiff, Nat.reduceMul, ↓reduceIte, reduceCtorEq]
  have hP1 : 1 ≤ P ∧ P ≤ 12 := by simp at hP; omega
  refine ⟨by omega, by omega, ?_⟩
  refine seq_join (fun i : Int × Int => ⟨[(0, .p 1 0), (1, .i .i64 n), (4, .p 2 0), (5, .p 3 0)], rdr B c i.2 ++ [.rw ty_impl_Task [.i .i64 0, .i .i64 0, .i .i64 0] 3, .rw ty_impl_Task [.i .i64 0, .i .i64 i.1, .i .i64 P] 3]⟩)
    (fun i => (1 ≤ i.1 ∧ i.1 ≤ P) ∧ p ≤ i.2 ∧ i.2 ≤ p + 4) ?_ ?_
  · simp only [go_sem, Int.reduceToNat, List.take_nil, Nat.zero_mul, Nat.reduceEqDiff, Nat.reduceAdd, Nat.reduceLT, Nat.reduceLeDiff, Nat.reduceMul, ↓reduceIte, reduceCtorEq]
    refine ⟨by omega, spec_l20Rd_pick_ (Rdr.of (τ := [_, _, _])) hC (by omega) _ (by omega) fun r3 h31 h32 _ => ?_⟩
    simp only [go_sem, Int.reduceToNat, List.take_nil, Nat.zero_mul, Nat.reduceEqDiff, Nat.reduceAdd, Nat.reduceLT, Nat.reduceLeDiff, Nat.reduceMul, ↓reduceIte, reduceCtorEq]
    have mx1 : 1 ≤ (if 1 < P - 1 then P - 1 else 1) ∧ (if 1 < P - 1 then P - 1 else 1) ≤ P := by split <;> omega
    refine ⟨by omega, ?_, ?_⟩
    · refine spec_l20Rd_pick_ (Rdr.of (τ := [_, _, _, _])) hC (by omega) _ (by omega) fun r4 h41 h42 _ => ?_
      obtain ⟨D, hD, eD⟩ := rd_int [P, 1 + r3, if 1 < P - 1 then P - 1 else 1] r4.toNat (by simp; omega)
      simp only [List.map_cons, List.map_nil] at eD
      simp only [eD, go_sem, Int.reduceToNat, List.take_nil, Nat.zero_mul, Nat.reduceEqDiff, Nat.reduceAdd, Nat.reduceLT, Nat.reduceLeDiff, Nat.reduceMul, ↓reduceIte, reduceCtorEq]
      refine ⟨by omega, by omega, kJ_intro (D, p + 1 + 1 + 1 + 1) ⟨?_, by simp only; omega⟩ (Wk.pick [0, 1, 2, 4])⟩
      simp only [List.mem_cons, List.not_mem_nil, or_false] at hD
      simp only
      omega
    · refine spec_l20Rd_pick_ (Rdr.of (τ := [_, _, _])) hC (by omega) _ (by omega) fun r4 h41 h42 _ => ?_
      obtain ⟨D, hD, eD⟩ := rd_int [P, 1 + r3, if 1 < P - 1 then P - 1 else 1] r4.toNat (by simp; omega)
      simp only [List.map_cons, List.map_nil] at eD
      simp only [eD, go_sem, Int.reduceToNat, List.take_nil, Nat.zero_mul, Nat.reduceEqDiff, Nat.reduceAdd, Nat.reduceLT, Nat.reduceLeDiff, Nat.reduceMul, ↓reduceIte, reduceCtorEq]
      refine ⟨by omega, by omega, kJ_intro (D, p + 1 + 1 + 1 + 1) ⟨?_, by simp only; omega⟩ (Wk.pick [0, 1, 2, 4])⟩
      simp only [List.mem_cons, List.not_mem_nil, or_false] at hD
      simp only
      omega
  · rintro ⟨D, q⟩ ⟨⟨hD1, hD2⟩, hq1, hq2⟩
    simp only at hD1 hD2 hq1 hq2
    have e2 : D.tdiv 2 = D / 2 := Int.tdiv_eq_ediv_of_nonneg (by omega)
    have e3 : D.tdiv 3 = D / 3 := Int.tdiv_eq_ediv_of_nonneg (by omega)
    have m2 : 1 ≤ (if 1 < D / 2 then D / 2 else 1) ∧ (if 1 < D / 2 then D / 2 else 1) ≤ D := by split <;> omega
    have m3 : 1 ≤ (if 1 < D / 3 then D / 3 else 1) ∧ (if 1 < D / 3 then D / 3 else 1) ≤ D := by split <;> omega
    refine seq_join (fun i : Int × Int => ⟨[(0, .p 1 0), (1, .i .i64 n), (4, .p 2 0), (5, .p 3 0)], rdr B c i.2 ++ [.rw ty_impl_Task [.i .i64 0, .i .i64 0, .i .i64 0] 3, .rw ty_impl_Task [.i .i64 i.1, .i .i64 D, .i .i64 P] 3]⟩)
      (fun i => (1 ≤ i.1 ∧ i.1 ≤ D ∧ i.1 ≤ 8) ∧ p ≤ i.2 ∧ i.2 ≤ p + 6) ?_ ?_
    · simp only [e2, e3, go_sem, Int.reduceToNat, List.take_nil, Nat.zero_mul, Nat.reduceEqDiff, Nat.reduceAdd, Nat.reduceLT, Nat.reduceLeDiff, Nat.reduceMul, ↓reduceIte, reduceCtorEq]
      refine ⟨by omega, by omega, by omega, by omega, ?_, ?_⟩
      · refine spec_l20Rd_pick_ (Rdr.of (τ := [_, _, _])) hC (by omega) _ (by omega) fun r4 h41 h42 _ => ?_
        obtain ⟨E, hE, eE⟩ := rd_int [D, if 1 < D / 2 then D / 2 else 1, if 1 < D / 3 then D / 3 else 1] r4.toNat (by simp; omega)
        simp only [List.map_cons, List.map_nil] at eE
        simp only [List.mem_cons, List.not_mem_nil, or_false] at hE
        have mE : 1 ≤ (if E < 8 then E else 8) ∧ (if E < 8 then E else 8) ≤ D ∧ (if E < 8 then E else 8) ≤ 8 := by split <;> omega
        simp only [eE, go_sem, Int.reduceToNat, List.take_nil, Nat.zero_mul, Nat.reduceEqDiff, Nat.reduceAdd, Nat.reduceLT, Nat.reduceLeDiff, Nat.reduceMul, ↓reduceIte, reduceCtorEq]
        refine ⟨by omega, by omega, spec_l20Rd_pick_ (Rdr.of (τ := [_, _, _])) hC (by omega) _ (by omega) fun r5 h51 h52 _ => ?_⟩
        simp only [eE, go_sem, Int.reduceToNat, List.take_nil, Nat.zero_mul, Nat.reduceEqDiff, Nat.reduceAdd, Nat.reduceLT, Nat.reduceLeDiff, Nat.reduceMul, ↓reduceIte, reduceCtorEq]
        refine ⟨by omega, by omega, kJ_intro (1 + r5, q + 1 + 1) ⟨by simp only; omega, by simp only; omega⟩ (Wk.pick [0, 1, 2, 3])⟩
      · refine spec_l20Rd_pick_ (Rdr.of (τ := [_, _])) hC (by omega) _ (by omega) fun r4 h41 h42 _ => ?_
        obtain ⟨E, hE, eE⟩ := rd_int [D, if 1 < D / 2 then D / 2 else 1, if 1 < D / 3 then D / 3 else 1] r4.toNat (by simp; omega)
        simp only [List.map_cons, List.map_nil] at eE
        simp only [List.mem_cons, List.not_mem_nil, or_false] at hE
        have mE : 1 ≤ (if E < 8 then E else 8) ∧ (if E < 8 then E else 8) ≤ D ∧ (if E < 8 then E else 8) ≤ 8 := by split <;> omega
        simp only [eE, go_sem, Int.reduceToNat, List.take_nil, Nat.zero_mul, Nat.reduceEqDiff, Nat.reduceAdd, Nat.reduceLT, Nat.reduceLeDiff, Nat.reduceMul, ↓reduceIte, reduceCtorEq]
        refine ⟨by omega, by omega, spec_l20Rd_pick_ (Rdr.of (τ := [_, _, _])) hC (by omega) _ (by omega) fun r5 h51 h52 _ => ?_⟩
        simp only [eE, go_sem, Int.reduceToNat, List.take_nil, Nat.zero_mul, Nat.reduceEqDiff, Nat.reduceAdd, Nat.reduceLT, Nat.reduceLeDiff, Nat.reduceMul, ↓reduceIte, reduceCtorEq]
        refine ⟨by omega, by omega, kJ_intro (1 + r5, q + 1 + 1) ⟨by simp only; omega, by simp only; omega⟩ (Wk.pick [0, 1, 2, 3])⟩
    · rintro ⟨C, q⟩ ⟨⟨hC1, hC2, hC3⟩, hq3, hq4⟩
      simp only at hC1 hC2 hC3 hq3 hq4
      refine seq_join (fun i : Task × Int => ⟨[(0, .p 1 0), (1, .i .i64 n), (4, .p 2 0), (5, .p 3 0)], rdr B c i.2 ++ [.rw ty_impl_Task [.i .i64 0, .i .i64 0, .i .i64 0] 3, .rw ty_impl_Task [.i .i64 i.1.C, .i .i64 i.1.D, .i .i64 i.1.P] 3]⟩)
        (fun i => (wildT i.1 ∧ (n ≤ 0 → i.1.ok)) ∧ p ≤ i.2 ∧ i.2 ≤ p + 9) ?_ ?_
      · simp only [go_sem, Int.reduceToNat, List.take_nil, Nat.zero_mul, Nat.reduceEqDiff, Nat.reduceAdd, Nat.reduceLT, Nat.reduceLeDiff, Nat.reduceMul, ↓reduceIte, reduceCtorEq]
        refine spec_l20Rd_odd_ (Rdr.of (τ := [_, _])) hC (by omega) _ (by omega) fun b q1 hb1 hb2 hb3 => ?_
        simp only [go_sem, Int.reduceToNat, List.take_nil, Nat.zero_mul, Nat.reduceEqDiff, Nat.reduceAdd, Nat.reduceLT, Nat.reduceLeDiff, Nat.reduceMul, ↓reduceIte, reduceCtorEq]
        refine bc_of (fun hb => ?_) (fun hb => ?_)
        · refine spec_l20Rd_pick_ (Rdr.of (τ := [_, _])) hC (by omega) _ (by omega) fun r4 h41 h42 _ => ?_
          have hn0 : ¬ n ≤ 0 := fun h => by rw [hb3 h] at hb; cases hb
          simp only [go_sem, Int.reduceToNat, List.take_nil, Nat.zero_mul, Nat.reduceEqDiff, Nat.reduceAdd, Nat.reduceLT, Nat.reduceLeDiff, Nat.reduceMul, ↓reduceIte, reduceCtorEq]
          refine ⟨fun h0 => ⟨by omega, ?_, ?_⟩, fun h0 => ⟨fun h1 => ⟨by omega, ?_, ?_⟩, fun h1 => ?_⟩⟩
          · refine spec_l20Rd_pick_ (Rdr.of (τ := [_, _, _])) hC (by omega) _ (by omega) fun r5 h51 h52 _ => ?_
            obtain ⟨E, hE, eE⟩ := rd_int [0, -1, 9, D + 1] r5.toNat (by simp; omega)
            simp only [List.map_cons, List.map_nil] at eE
            simp only [List.mem_cons, List.not_mem_nil, or_false] at hE
            simp only [eE, go_sem, Int.reduceToNat, List.take_nil, Nat.zero_mul, Nat.reduceEqDiff, Nat.reduceAdd, Nat.reduceLT, Nat.reduceLeDiff, Nat.reduceMul, ↓reduceIte, reduceCtorEq]
            refine ⟨by omega, by omega, kJ_intro (⟨E, D, P⟩, q1 + 1 + 1) ⟨⟨by simp only [wildT]; omega, fun h => absurd h hn0⟩, by simp only; omega⟩ (Wk.pick [0, 1, 2, 3])⟩
          · refine spec_l20Rd_pick_ (Rdr.of (τ := [_, _])) hC (by omega) _ (by omega) fun r5 h51 h52 _ => ?_
            obtain ⟨E, hE, eE⟩ := rd_int [0, -1, 9, D + 1] r5.toNat (by simp; omega)
            simp only [List.map_cons, List.map_nil] at eE
            simp only [List.mem_cons, List.not_mem_nil, or_false] at hE
            simp only [eE, go_sem, Int.reduceToNat, List.take_nil, Nat.zero_mul, Nat.reduceEqDiff, Nat.reduceAdd, Nat.reduceLT, Nat.reduceLeDiff, Nat.reduceMul, ↓reduceIte, reduceCtorEq]
            refine ⟨by omega, by omega, kJ_intro (⟨E, D, P⟩, q1 + 1 + 1) ⟨⟨by simp only [wildT]; omega, fun h => absurd h hn0⟩, by simp only; omega⟩ (Wk.pick [0, 1, 2, 3])⟩
          · refine spec_l20Rd_pick_ (Rdr.of (τ := [_, _, _])) hC (by omega) _ (by omega) fun r5 h51 h52 _ => ?_
            obtain ⟨E, hE, eE⟩ := rd_int [0, P + 1, -1] r5.toNat (by simp; omega)
            simp only [List.map_cons, List.map_nil] at eE
            simp only [List.mem_cons, List.not_mem_nil, or_false] at hE
            simp only [eE, go_sem, Int.reduceToNat, List.take_nil, Nat.zero_mul, Nat.reduceEqDiff, Nat.reduceAdd, Nat.reduceLT, Nat.reduceLeDiff, Nat.reduceMul, ↓reduceIte, reduceCtorEq]
            refine ⟨by omega, by omega, kJ_intro (⟨C, E, P⟩, q1 + 1 + 1) ⟨⟨by simp only [wildT]; omega, fun h => absurd h hn0⟩, by simp only; omega⟩ (Wk.pick [0, 1, 2, 3])⟩
          · refine spec_l20Rd_pick_ (Rdr.of (τ := [_, _])) hC (by omega) _ (by omega) fun r5 h51 h52 _ => ?_
            obtain ⟨E, hE, eE⟩ := rd_int [0, P + 1, -1] r5.toNat (by simp; omega)
            simp only [List.map_cons, List.map_nil] at eE
            simp only [List.mem_cons, List.not_mem_nil, or_false] at hE
            simp only [eE, go_sem, Int.reduceToNat, List.take_nil, Nat.zero_mul, Nat.reduceEqDiff, Nat.reduceAdd, Nat.reduceLT, Nat.reduceLeDiff, Nat.reduceMul, ↓reduceIte, reduceCtorEq]
            refine ⟨by omega, by omega, kJ_intro (⟨C, E, P⟩, q1 + 1 + 1) ⟨⟨by simp only [wildT]; omega, fun h => absurd h hn0⟩, by simp only; omega⟩ (Wk.pick [0, 1, 2, 3])⟩
          · refine spec_l20Rd_pick_ (Rdr.of (τ := [_, _, _])) hC (by omega) _ (by omega) fun r5 h51 h52 _ => ?_
            obtain ⟨E, hE, eE⟩ := rd_int [0, 13, -1] r5.toNat (by simp; omega)
            simp only [List.map_cons, List.map_nil] at eE
            simp only [List.mem_cons, List.not_mem_nil, or_false] at hE
            simp only [eE, go_sem, Int.reduceToNat, List.take_nil, Nat.zero_mul, Nat.reduceEqDiff, Nat.reduceAdd, Nat.reduceLT, Nat.reduceLeDiff, Nat.reduceMul, ↓reduceIte, reduceCtorEq]
            refine ⟨by omega, by omega, kJ_intro (⟨C, D, E⟩, q1 + 1 + 1) ⟨⟨by simp only [wildT]; omega, fun h => absurd h hn0⟩, by simp only; omega⟩ (Wk.pick [0, 1, 2, 3])⟩
        · refine kJ_intro (⟨C, D, P⟩, q1) ⟨⟨?_, fun _ => ?_⟩, by simp only; omega⟩ (Wk.pick [0, 1, 2, 3])
          · simp only [wildT]; omega
          · simp only [Task.ok]; omega
      · rintro ⟨t, q⟩ ⟨⟨ht1, ht2⟩, hq5, hq6⟩
        simp only at ht1 ht2 hq5 hq6
        simp only [encTask, go_sem, Int.reduceToNat, List.take_nil, Nat.zero_mul, Nat.reduceEqDiff, Nat.reduceAdd, Nat.reduceLT, Nat.reduceLeDiff, Nat.reduceMul, ↓reduceIte, reduceCtorEq]
        refine Fin.pick [0, 1] (.agg [.i .i64 t.C, .i .i64 t.D, .i .i64 t.P]) _ ⟨q, [], rfl, ⟨by omega, by omega⟩, rfl, t, rfl, ht1, ht2⟩
end Go.Proofs.YtfngcejaphhmmaaGreatDoor
