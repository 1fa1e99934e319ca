import Derived.Test.YtfngcejaphhmmaaGreatDoorS19
namespace Go.Proofs.YtfngcejaphhmmaaGreatDoor
open Go.Abs Go.Ds
set_option linter.unusedSimpArgs false
set_option linter.unusedVariables false
set_option maxRecDepth 20000
set_option maxHeartbeats 1000000
theorem spec_l1Gcd_ {a b : Nat} (ha : a ≤ 1000000000) (hb : b ≤ 1000000000) {σ : List AB} {K : AV → List AB → Prop} (hk : K (.i .i64 (Nat.gcd a b : Nat)) σ) : CallWp Tryz.prog n_spec_l1Gcd [.i .i64 a, .i .i64 b] σ K := by
  refine call_spec_l1Gcd (by simp) ?_
  simp only [c_spec_l1Gcd, not_true_eq_false, not_false_eq_true, decide_true, decide_false, Bool.not_true, Bool.not_false, false_implies, true_implies, and_true, true_and, Bool.false_eq_true, Bool.true_eq_false, implies_true, Bool.not_not, Classical.not_not, go_sem, Int.reduceToNat, List.take_nil, Nat.zero_mul, Nat.reduceEqDiff, Nat.reduceAdd, Nat.reduceLT, Nat.reduceLeDiff, Nat.reduceMul, ↓reduceIte, reduceCtorEq]
  refine loop_intro (fun i : Nat × Nat => ⟨[(0, .i .i64 i.1), (1, .i .i64 i.2)], σ⟩) (fun i => (i.1 ≤ 1000000000 ∧ i.2 ≤ 1000000000) ∧ Nat.gcd i.1 i.2 = Nat.gcd a b) (fun i => i.2) (a, b) ⟨⟨ha, hb⟩, rfl⟩ (Wk.keep (by simp [look_cons])) ?_
  rintro ⟨x, y⟩ ⟨⟨hx, hy⟩, hg⟩
  simp only at hx hy hg
  simp only [l0_spec_l1Gcd, not_true_eq_false, not_false_eq_true, decide_true, decide_false, Bool.not_true, Bool.not_false, false_implies, true_implies, and_true, true_and, Bool.false_eq_true, Bool.true_eq_false, implies_true, Bool.not_not, Classical.not_not, go_sem, Int.reduceToNat, List.take_nil, Nat.zero_mul, Nat.reduceEqDiff, Nat.reduceAdd, Nat.reduceLT, Nat.reduceLeDiff, Nat.reduceMul, ↓reduceIte, reduceCtorEq]
  refine ⟨fun hne => ⟨by omega, (y, x % y), ⟨⟨⟨hy, ?_⟩, ?_⟩, Nat.mod_lt _ (by omega)⟩, ?_⟩, fun he => ?_⟩
  · have := Nat.mod_lt x (show y > 0 by omega); simp only; omega
  · simp only; rw [gcd_step]; exact hg
  · rw [show ((x : Nat) : Int).tmod (y : Nat) = ((x % y : Nat) : Int) from rfl]
    exact Wk.keep (by simp [look_cons])
  · have h0 : y = 0 := by omega
    subst h0
    rw [Nat.gcd_zero_right] at hg
    rw [hg]
    exact Fin.plain hk
theorem spec_l1Hyper0 (S : List Task) (hS : setOk S) (c : Nat) : CallWp Tryz.prog n_spec_l1Hyper [.sl 0 0 S.length c] [.ro (encTask.row S)] (fun x σ => x = .i .i64 (hyperN S : Nat) ∧ σ = [.ro (encTask.row S)]) := by
  refine call_spec_l1Hyper (by simp) ?_
  simp only [c_spec_l1Hyper, go_sem, Int.reduceToNat, List.take_nil, Nat.zero_mul, Nat.reduceEqDiff, Nat.reduceAdd, Nat.reduceLT, Nat.reduceLeDiff, Nat.reduceMul, ↓reduceIte, reduceCtorEq]
  refine loop_count S.length (fun k => ⟨[(0, .sl 0 0 S.length c), (3, .i .i64 (hyperN (S.take k) : Nat)), (4, .i .i64 k)], [.ro (encTask.row S)]⟩) (fun _ => True) trivial (by show Wk 1 27 _ ⟨[(0, .sl 0 0 S.length c), (3, .i .i64 1), (4, .i .i64 0)], [.ro (encTask.row S)]⟩; exact Wk.pick [0]) fun k hk _ => ?_
  simp only [l0_spec_l1Hyper, not_true_eq_false, not_false_eq_true, decide_true, decide_false, Bool.not_true, Bool.not_false, false_implies, true_implies, and_true, true_and, Bool.false_eq_true, Bool.true_eq_false, implies_true, Bool.not_not, Classical.not_not, go_sem, Int.reduceToNat, List.take_nil, Nat.zero_mul, Nat.reduceEqDiff, Nat.reduceAdd, Nat.reduceLT, Nat.reduceLeDiff, Nat.reduceMul, ↓reduceIte, reduceCtorEq]
  refine ⟨fun hlt => ?_, fun hge => ?_⟩
  · have ht := hS.2 _ (List.getElem_mem hlt)
    unfold Task.ok at ht
    have hb := hyperN_bound hS (show k ≤ S.length by omega)
    have hn := hyperN_take hlt
    have h5 := hS.1
    obtain ⟨p, hp⟩ := Int.eq_ofNat_of_zero_le (show 0 ≤ S[k].P by omega)
    simp only [rdT2 hlt, lenT, hp, Int.toNat_natCast, not_true_eq_false, not_false_eq_true, decide_true, decide_false, Bool.not_true, Bool.not_false, false_implies, true_implies, and_true, true_and, Bool.false_eq_true, Bool.true_eq_false, implies_true, Bool.not_not, Classical.not_not, go_sem, Int.reduceToNat, List.take_nil, Nat.zero_mul, Nat.reduceEqDiff, Nat.reduceAdd, Nat.reduceLT, Nat.reduceLeDiff, Nat.reduceMul, ↓reduceIte, reduceCtorEq] at hn ⊢
    refine ⟨hlt, by omega, onCall.by (spec_l1Gcd_ (by omega) (by omega) ⟨rfl, rfl⟩) ?_⟩
    have hg : 0 < Nat.gcd (hyperN (S.take k)) p := Nat.gcd_pos_of_pos_left _ (by omega)
    have e : hyperN (S.take k) / Nat.gcd (hyperN (S.take k)) p * p = Nat.lcm (hyperN (S.take k)) p := Nat.div_mul_right_comm (Nat.gcd_dvd_left _ p) p
    have e2 : ((hyperN (S.take k) / Nat.gcd (hyperN (S.take k)) p : Nat) : Int) * (p : Int) = (Nat.lcm (hyperN (S.take k)) p : Nat) := by rw [← e]; exact (Int.natCast_mul _ _).symm
    have h1 : hyperN (S.take k) / Nat.gcd (hyperN (S.take k)) p ≤ hyperN (S.take k) := Nat.div_le_self _ _
    have h2 : Nat.lcm (hyperN (S.take k)) p ≤ 27720 * 100 := by
      rw [← e]; exact Nat.mul_le_mul (by omega) (by omega)
    have etd : ((hyperN (S.take k) : Nat) : Int).tdiv (Nat.gcd (hyperN (S.take k)) p : Nat) = ((hyperN (S.take k) / Nat.gcd (hyperN (S.take k)) p : Nat) : Int) := rfl
    simp only [rdT2 hlt, lenT, hp, etd, e2, not_true_eq_false, not_false_eq_true, decide_true, decide_false, Bool.not_true, Bool.not_false, false_implies, true_implies, and_true, true_and, Bool.false_eq_true, Bool.true_eq_false, implies_true, Bool.not_not, Classical.not_not, go_sem, Int.reduceToNat, List.take_nil, Nat.zero_mul, Nat.reduceEqDiff, Nat.reduceAdd, Nat.reduceLT, Nat.reduceLeDiff, Nat.reduceMul, ↓reduceIte, reduceCtorEq]
    rw [hn]
    generalize hyperN (S.take k) / Nat.gcd (hyperN (S.take k)) p = q at *
    repeat' first | omega | exact Wk.pick [0] | refine ⟨?_, ?_⟩
  · have ek : k = S.length := by omega
    subst ek
    rw [List.take_length]
    exact Fin.plain ⟨rfl, rfl⟩
theorem spec_l1Hyper_ {S : List Task} (hS : setOk S) {v : AV} {σ : List AB} (h : Rd encTask σ v S) {K : AV → List AB → Prop} (hk : K (.i .i64 (hyperN S : Nat)) σ) : CallWp Tryz.prog n_spec_l1Hyper [v] σ K :=
  call_rds _ (rds1 h.r) (fun c => [.sl 0 0 S.length (c 0)]) (fun c => spec_l1Hyper0 S hS (c 0)) (fun ν c h => ⟨h.1, trivial⟩) (fun _ => rfl) rfl hk
theorem spec_l2Demand0 (S : List Task) (hS : setOk S) (t : Int) (ht : 0 ≤ t ∧ t ≤ 1000000) (c : Nat) : CallWp Tryz.prog n_spec_l2Demand [.sl 0 0 S.length c, .i .i64 t] [.ro (encTask.row S)] (fun x σ => x = .i .i64 (dbf S t) ∧ σ = [.ro (encTask.row S)]) := by
  refine call_spec_l2Demand (by simp) ?_
  simp only [c_spec_l2Demand, go_sem, Int.reduceToNat, List.take_nil, Nat.zero_mul, Nat.reduceEqDiff, Nat.reduceAdd, Nat.reduceLT, Nat.reduceLeDiff, Nat.reduceMul, ↓reduceIte, reduceCtorEq]
  refine loop_count S.length (fun k => ⟨[(0, .sl 0 0 S.length c), (1, .i .i64 t), (5, .i .i64 (dbf (S.take k) t)), (6, .i .i64 k)], [.ro (encTask.row S)]⟩) (fun _ => True) trivial (by show Wk 1 43 _ ⟨[(0, .sl 0 0 S.length c), (1, .i .i64 t), (5, .i .i64 0), (6, .i .i64 0)], [.ro (encTask.row S)]⟩; exact Wk.pick [0]) fun k hk _ => ?_
  simp only [l0_spec_l2Demand, not_true_eq_false, not_false_eq_true, decide_true, decide_false, Bool.not_true, Bool.not_false, false_implies, true_implies, and_true, true_and, Bool.false_eq_true, Bool.true_eq_false, implies_true, Bool.not_not, Classical.not_not, go_sem, Int.reduceToNat, List.take_nil, Nat.zero_mul, Nat.reduceEqDiff, Nat.reduceAdd, Nat.reduceLT, Nat.reduceLeDiff, Nat.reduceMul, ↓reduceIte, reduceCtorEq]
  refine ⟨fun hlt => ?_, fun hge => ?_⟩
  · have hx := hS.2 _ (List.getElem_mem hlt)
    have hb1 := dbf1_bound hx ht.1
    have hb2 := dbfN_bound hS ht.1 k (by omega)
    rw [← dbf_take S t k (by omega)] at hb2
    have hn : dbf (S.take (k + 1)) t = dbf (S.take k) t + dbf1 S[k] t := by rw [List.take_succ_eq_append_getElem hlt, dbf_snoc]
    have h5 := hS.1
    have hb3 : (t + 1) * 8 * (k : Int) ≤ 8000008 * 5 := by
      refine Int.mul_le_mul (by omega) (by omega) (by omega) (by omega)
    unfold Task.ok at hx
    unfold dbf1 at hn hb1
    simp only [rdT0 hlt, rdT1 hlt, rdT2 hlt, lenT, not_true_eq_false, not_false_eq_true, decide_true, decide_false, Bool.not_true, Bool.not_false, false_implies, true_implies, and_true, true_and, Bool.false_eq_true, Bool.true_eq_false, implies_true, Bool.not_not, Classical.not_not, go_sem, Int.reduceToNat, List.take_nil, Nat.zero_mul, Nat.reduceEqDiff, Nat.reduceAdd, Nat.reduceLT, Nat.reduceLeDiff, Nat.reduceMul, ↓reduceIte, reduceCtorEq]
    refine ⟨hlt, by omega, fun hd => ?_, fun hd => ?_⟩
    · rw [if_pos hd] at hn hb1
      have hq0 : 0 ≤ (t - S[k].D) / S[k].P := Int.ediv_nonneg (by omega) (by omega)
      have hq1 : (t - S[k].D) / S[k].P ≤ t - S[k].D := Int.ediv_le_self _ (by omega)
      rw [Int.tdiv_eq_ediv_of_nonneg (show 0 ≤ t - S[k].D by omega), hn]
      generalize (t - S[k].D) / S[k].P = q at *
      generalize (q + 1) * S[k].C = w at *
      repeat' first | omega | exact Wk.pick [0] | refine ⟨?_, ?_⟩
    · rw [if_neg hd] at hn
      rw [hn, Int.add_zero]
      exact ⟨by omega, hlt, Wk.pick [0]⟩
  · have ek : k = S.length := by omega
    subst ek
    rw [List.take_length]
    exact Fin.plain ⟨rfl, rfl⟩
theorem spec_l2Demand_ {S : List Task} (hS : setOk S) {t : Int} (ht : 0 ≤ t ∧ t ≤ 1000000) {v : AV} {σ : List AB} (h : Rd encTask σ v S) {K : AV → List AB → Prop} (hk : K (.i .i64 (dbf S t)) σ) : CallWp Tryz.prog n_spec_l2Demand [v, .i .i64 t] σ K :=
  call_rds _ (rds1 h.r) (fun c => [.sl 0 0 S.length (c 0), .i .i64 t]) (fun c => spec_l2Demand0 S hS t ht (c 0)) (fun ν c h => ⟨h.1, .inl rfl, trivial⟩) (fun _ => rfl) rfl hk
theorem spec_l2Overload0 (S : List Task) (hS : setOk S) (c : Nat) : CallWp Tryz.prog n_spec_l2Overload [.sl 0 0 S.length c, .i .i64 (hyperN S : Nat)] [.ro (encTask.row S)] (fun x σ' => ∃ τ, σ' = [.ro (encTask.row S)] ++ τ ∧ FovG S x τ) := by
  have hH := hyperN_bound hS (Nat.le_refl S.length)
  rw [List.take_length] at hH
  refine call_spec_l2Overload (by simp) ?_
  simp only [c_spec_l2Overload, go_sem, Int.reduceToNat, List.take_nil, Nat.zero_mul, Nat.reduceEqDiff, Nat.reduceAdd, Nat.reduceLT, Nat.reduceLeDiff, Nat.reduceMul, ↓reduceIte, reduceCtorEq]
  refine loop_count (hyperN S) (fun k => ⟨[(0, .sl 0 0 S.length c), (1, .i .i64 (hyperN S : Nat)), (5, .i .i64 ((k : Int) + 1))], [.ro (encTask.row S)]⟩) (fun k => ∀ t : Int, 1 ≤ t → t < (k : Int) + 1 → dbf S t ≤ t) (fun t h1 h2 => by omega) (Wk.pick [0]) fun k hk hJ => ?_
  simp only [l0_spec_l2Overload, not_true_eq_false, not_false_eq_true, decide_true, decide_false, Bool.not_true, Bool.not_false, false_implies, true_implies, and_true, true_and, Bool.false_eq_true, Bool.true_eq_false, implies_true, Bool.not_not, Classical.not_not, go_sem, Int.reduceToNat, List.take_nil, Nat.zero_mul, Nat.reduceEqDiff, Nat.reduceAdd, Nat.reduceLT, Nat.reduceLeDiff, Nat.reduceMul, ↓reduceIte, reduceCtorEq]
  refine ⟨fun hle => spec_l2Demand_ hS (by omega) (Rd.own rfl) ?_, fun hgt => ?_⟩
  · simp only [not_true_eq_false, not_false_eq_true, decide_true, decide_false, Bool.not_true, Bool.not_false, false_implies, true_implies, and_true, true_and, Bool.false_eq_true, Bool.true_eq_false, implies_true, Bool.not_not, Classical.not_not, go_sem, Int.reduceToNat, List.take_nil, Nat.zero_mul, Nat.reduceEqDiff, Nat.reduceAdd, Nat.reduceLT, Nat.reduceLeDiff, Nat.reduceMul, ↓reduceIte, reduceCtorEq]
    refine ⟨fun ho => ?_, fun ho => ⟨by omega, ⟨by omega, fun t h1 h2 => ?_⟩, ?_⟩⟩
    · exact Fin.plain ⟨[], rfl, rfl, (k : Int) + 1, rfl, .inr ⟨hS, .inr ⟨by omega, by omega, ho, fun t h1 h2 => hJ t h1 h2⟩⟩⟩
    · by_cases e : t = (k : Int) + 1
      · rw [e]; omega
      · exact hJ t h1 (by omega)
    · rw [show ((k + 1 : Nat) : Int) + 1 = (k : Int) + 1 + 1 by omega]
      exact Wk.pick [0]
  · exact Fin.plain ⟨[], rfl, rfl, -1, rfl, .inr ⟨hS, .inl ⟨rfl, fun t h1 h2 => hJ t h1 (by omega)⟩⟩⟩
theorem spec_FirstOverload0 (S : List Task) (hs : S.length ≤ 1048576) (c : Nat) : CallWp Tryz.prog n_spec_FirstOverload [.sl 0 0 S.length c] [.ro (encTask.row S)] (fun x σ' => ∃ τ, σ' = [.ro (encTask.row S)] ++ τ ∧ FovG S x τ) := by
  refine call_spec_FirstOverload (by simp) ?_
  simp only [c_spec_FirstOverload, go_sem, Int.reduceToNat, List.take_nil, Nat.zero_mul, Nat.reduceEqDiff, Nat.reduceAdd, Nat.reduceLT, Nat.reduceLeDiff, Nat.reduceMul, ↓reduceIte, reduceCtorEq]
  refine spec_SetValid_ (L := S) (by omega) (Rd.own rfl) ?_
  simp only [not_true_eq_false, not_false_eq_true, decide_true, decide_false, Bool.not_true, Bool.not_false, false_implies, true_implies, and_true, true_and, Bool.false_eq_true, Bool.true_eq_false, implies_true, Bool.not_not, Classical.not_not, go_sem, Int.reduceToNat, List.take_nil, Nat.zero_mul, Nat.reduceEqDiff, Nat.reduceAdd, Nat.reduceLT, Nat.reduceLeDiff, Nat.reduceMul, ↓reduceIte, reduceCtorEq]
  refine ⟨fun hS => ?_, fun hS => ?_⟩
  · exact Fin.plain ⟨[], rfl, rfl, -1, rfl, .inl ⟨hS, rfl⟩⟩
  refine spec_l1Hyper_ hS (Rd.own rfl) ?_
  simp only [not_true_eq_false, not_false_eq_true, decide_true, decide_false, Bool.not_true, Bool.not_false, false_implies, true_implies, and_true, true_and, Bool.false_eq_true, Bool.true_eq_false, implies_true, Bool.not_not, Classical.not_not, go_sem, Int.reduceToNat, List.take_nil, Nat.zero_mul, Nat.reduceEqDiff, Nat.reduceAdd, Nat.reduceLT, Nat.reduceLeDiff, Nat.reduceMul, ↓reduceIte, reduceCtorEq]
  refine (spec_l2Overload0 S hS c).mono ?_
  rintro x σ' _ ⟨τ, rfl, rfl, r, rfl, h⟩
  simp only [List.append_nil, not_true_eq_false, not_false_eq_true, decide_true, decide_false, Bool.not_true, Bool.not_false, false_implies, true_implies, and_true, true_and, Bool.false_eq_true, Bool.true_eq_false, implies_true, Bool.not_not, Classical.not_not, go_sem, Int.reduceToNat, List.take_nil, Nat.zero_mul, Nat.reduceEqDiff, Nat.reduceAdd, Nat.reduceLT, Nat.reduceLeDiff, Nat.reduceMul, ↓reduceIte, reduceCtorEq]
  exact Fin.plain ⟨[], rfl, rfl, r, rfl, h⟩
theorem spec_FirstOverload_ {S : List Task} (hs : S.length ≤ 1048576) {v : AV} {σ : List AB} (h : Rd encTask σ v S) {K : AV → List AB → Prop} (hn : ¬ setOk S → K (.i .i64 (-1)) σ) (hy : setOk S → ∀ r, FovP S r → K (.i .i64 r) σ) : CallWp Tryz.prog n_spec_FirstOverload [v] σ K := by
  refine call_news _ (rds1 h.r) (fun c => [.sl 0 0 S.length (c 0)]) (FovG S) (fun c => spec_FirstOverload0 S hs (c 0)) (fun _ _ h => h.fr) (fun ν c h => ⟨h.1, trivial⟩) (fun _ => rfl) ?_
  rintro x τ ⟨rfl, r, rfl, ⟨h1, rfl⟩ | ⟨h1, h2⟩⟩
  · rw [List.append_nil]; exact hn h1
  · rw [List.append_nil]; exact hy h1 r h2
end Go.Proofs.YtfngcejaphhmmaaGreatDoor
