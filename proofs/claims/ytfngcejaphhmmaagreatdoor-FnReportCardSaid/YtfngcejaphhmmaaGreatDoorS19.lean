import Derived.Test.YtfngcejaphhmmaaGreatDoorC2
import Derived.Test.YtfngcejaphhmmaaGreatDoorAbsY
import Derived.Test.YtfngcejaphhmmaaGreatDoorM15
namespace Go.Proofs.YtfngcejaphhmmaaGreatDoor
open Go.Abs Go.Ds
set_option linter.unusedSimpArgs false
set_option linter.unusedVariables false
set_option maxRecDepth 20000
set_option maxHeartbeats 1000000
theorem encT2 (t : Task) : encTask.f t = [.i .i64 t.C, .i .i64 t.D, .i .i64 t.P] := rfl
theorem impl_gcd_ {a b : Nat} (ha : a ≤ 1000000000) (hb : b ≤ 1000000000) {σ : List AB} {K : AV → List AB → Prop} (hk : K (.i .i64 (Nat.gcd a b : Nat)) σ) : CallWp Tryz.prog n_impl_gcd [.i .i64 a, .i .i64 b] σ K := by
  refine call_impl_gcd (by simp) ?_
  simp only [c_impl_gcd, not_true_eq_false, not_false_eq_true, decide_true, decide_false, Bool.not_true, Bool.not_false, false_implies, true_implies, and_true, true_and, Bool.false_eq_true, Bool.true_eq_false, implies_true, Bool.not_not, Classical.not_not, go_sem, Int.reduceToNat, List.take_nil, Nat.zero_mul, Nat.reduceEqDiff, Nat.reduceAdd, Nat.reduceLT, Nat.reduceLeDiff, Nat.reduceMul, ↓reduceIte, reduceCtorEq]
  refine loop_intro (fun i : Nat × Nat => ⟨[(0, .i .i64 i.1), (1, .i .i64 i.2)], σ⟩) (fun i => (i.1 ≤ 1000000000 ∧ i.2 ≤ 1000000000) ∧ Nat.gcd i.1 i.2 = Nat.gcd a b) (fun i => i.2) (a, b) ⟨⟨ha, hb⟩, rfl⟩ (Wk.keep (by simp [look_cons])) ?_
  rintro ⟨x, y⟩ ⟨⟨hx, hy⟩, hg⟩
  simp only at hx hy hg
  simp only [l0_impl_gcd, not_true_eq_false, not_false_eq_true, decide_true, decide_false, Bool.not_true, Bool.not_false, false_implies, true_implies, and_true, true_and, Bool.false_eq_true, Bool.true_eq_false, implies_true, Bool.not_not, Classical.not_not, go_sem, Int.reduceToNat, List.take_nil, Nat.zero_mul, Nat.reduceEqDiff, Nat.reduceAdd, Nat.reduceLT, Nat.reduceLeDiff, Nat.reduceMul, ↓reduceIte, reduceCtorEq]
  refine ⟨fun hne => ⟨hne, (y, x % y), ⟨⟨⟨hy, ?_⟩, ?_⟩, Nat.mod_lt _ (by omega)⟩, ?_⟩, fun he => ?_⟩
  · have := Nat.mod_lt x (show y > 0 by omega); simp only; omega
  · simp only; rw [gcd_step]; exact hg
  · rw [show ((x : Nat) : Int).tmod (y : Nat) = ((x % y : Nat) : Int) from rfl]
    exact Wk.keep (by simp [look_cons])
  · have h0 : y = 0 := by omega
    subst h0
    rw [Nat.gcd_zero_right] at hg
    rw [hg]
    exact Fin.plain hk
theorem impl_lcm_ {a b : Nat} (ha : 1 ≤ a ∧ a ≤ 100000) (hb : 1 ≤ b ∧ b ≤ 100) {σ : List AB} {K : AV → List AB → Prop} (hk : K (.i .i64 (Nat.lcm a b : Nat)) σ) : CallWp Tryz.prog n_impl_lcm [.i .i64 a, .i .i64 b] σ K := by
  refine call_impl_lcm (by simp) ?_
  simp only [c_impl_lcm, not_true_eq_false, not_false_eq_true, decide_true, decide_false, Bool.not_true, Bool.not_false, false_implies, true_implies, and_true, true_and, Bool.false_eq_true, Bool.true_eq_false, implies_true, Bool.not_not, Classical.not_not, go_sem, Int.reduceToNat, List.take_nil, Nat.zero_mul, Nat.reduceEqDiff, Nat.reduceAdd, Nat.reduceLT, Nat.reduceLeDiff, Nat.reduceMul, ↓reduceIte, reduceCtorEq]
  refine impl_gcd_ (by omega) (by omega) ?_
  have hg : 0 < Nat.gcd a b := Nat.gcd_pos_of_pos_left _ (by omega)
  simp only [not_true_eq_false, not_false_eq_true, decide_true, decide_false, Bool.not_true, Bool.not_false, false_implies, true_implies, and_true, true_and, Bool.false_eq_true, Bool.true_eq_false, implies_true, Bool.not_not, Classical.not_not, go_sem, Int.reduceToNat, List.take_nil, Nat.zero_mul, Nat.reduceEqDiff, Nat.reduceAdd, Nat.reduceLT, Nat.reduceLeDiff, Nat.reduceMul, ↓reduceIte, reduceCtorEq]
  rw [show ((a : Nat) : Int).tdiv (Nat.gcd a b : Nat) = ((a / Nat.gcd a b : Nat) : Int) from rfl]
  have e : a / Nat.gcd a b * b = Nat.lcm a b := Nat.div_mul_right_comm (Nat.gcd_dvd_left a b) b
  have e2 : ((a / Nat.gcd a b : Nat) : Int) * (b : Int) = (Nat.lcm a b : Nat) := by rw [← e]; exact (Int.natCast_mul _ _).symm
  have h1 : a / Nat.gcd a b ≤ a := Nat.div_le_self _ _
  have h2 : Nat.lcm a b ≤ 100000 * 100 := by
    rw [← e]; exact Nat.mul_le_mul (by omega) hb.2
  rw [e2]
  generalize a / Nat.gcd a b = q at *
  exact ⟨by omega, by omega, by omega, Fin.plain hk⟩
theorem impl_hyper0 (S : List Task) (hS : setOk S) (c : Nat) : CallWp Tryz.prog n_impl_hyper [.sl 0 0 S.length c] [.ro (encTask.row S)] (fun x σ => x = .i .i64 (hyperN S : Nat) ∧ σ = [.ro (encTask.row S)]) := by
  refine call_impl_hyper (by simp) ?_
  simp only [c_impl_hyper, go_sem, Int.reduceToNat, List.take_nil, Nat.zero_mul, Nat.reduceEqDiff, Nat.reduceAdd, Nat.reduceLT, Nat.reduceLeDiff, Nat.reduceMul, ↓reduceIte, reduceCtorEq]
  refine loop_count S.length (fun k => ⟨[(3, .i .i64 (hyperN (S.take k) : Nat)), (6, .sl 0 0 S.length c), (7, .i .i64 S.length), (8, .i .i64 k)], [.ro (encTask.row S)]⟩) (fun _ => True) trivial (by show Wk 1 18 _ ⟨[(3, .i .i64 1), (6, .sl 0 0 S.length c), (7, .i .i64 S.length), (8, .i .i64 0)], [.ro (encTask.row S)]⟩; exact Wk.pick [0]) fun k hk _ => ?_
  simp only [l0_impl_hyper, not_true_eq_false, not_false_eq_true, decide_true, decide_false, Bool.not_true, Bool.not_false, false_implies, true_implies, and_true, true_and, Bool.false_eq_true, Bool.true_eq_false, implies_true, Bool.not_not, Classical.not_not, go_sem, Int.reduceToNat, List.take_nil, Nat.zero_mul, Nat.reduceEqDiff, Nat.reduceAdd, Nat.reduceLT, Nat.reduceLeDiff, Nat.reduceMul, ↓reduceIte, reduceCtorEq]
  refine ⟨fun hlt => ?_, fun hge => ?_⟩
  · have ht := hS.2 _ (List.getElem_mem hlt)
    unfold Task.ok at ht
    have hb := hyperN_bound hS (show k ≤ S.length by omega)
    have hn := hyperN_take hlt
    have h5 := hS.1
    obtain ⟨p, hp⟩ := Int.eq_ofNat_of_zero_le (show 0 ≤ S[k].P by omega)
    simp only [winT hlt, encT2, lenT, hp, Int.toNat_natCast, not_true_eq_false, not_false_eq_true, decide_true, decide_false, Bool.not_true, Bool.not_false, false_implies, true_implies, and_true, true_and, Bool.false_eq_true, Bool.true_eq_false, implies_true, Bool.not_not, Classical.not_not, go_sem, Int.reduceToNat, List.take_nil, Nat.zero_mul, Nat.reduceEqDiff, Nat.reduceAdd, Nat.reduceLT, Nat.reduceLeDiff, Nat.reduceMul, ↓reduceIte, reduceCtorEq] at hn ⊢
    refine ⟨hlt, by omega, impl_lcm_ (by omega) (by omega) ?_⟩
    simp only [not_true_eq_false, not_false_eq_true, decide_true, decide_false, Bool.not_true, Bool.not_false, false_implies, true_implies, and_true, true_and, Bool.false_eq_true, Bool.true_eq_false, implies_true, Bool.not_not, Classical.not_not, go_sem, Int.reduceToNat, List.take_nil, Nat.zero_mul, Nat.reduceEqDiff, Nat.reduceAdd, Nat.reduceLT, Nat.reduceLeDiff, Nat.reduceMul, ↓reduceIte, reduceCtorEq]
    rw [hn]
    exact ⟨by omega, hlt, Wk.pick [0]⟩
  · have ek : k = S.length := by omega
    subst ek
    rw [List.take_length]
    exact Fin.plain ⟨rfl, rfl⟩
theorem impl_hyper_ {S : List Task} (hS : setOk S) {v : AV} {σ : List AB} (h : Rd encTask σ v S) {K : AV → List AB → Prop} (hk : K (.i .i64 (hyperN S : Nat)) σ) : CallWp Tryz.prog n_impl_hyper [v] σ K :=
  call_rds _ (rds1 h.r) (fun c => [.sl 0 0 S.length (c 0)]) (fun c => impl_hyper0 S hS (c 0)) (fun ν c h => ⟨h.1, trivial⟩) (fun _ => rfl) rfl hk
theorem impl_demand0 (S : List Task) (hS : setOk S) (t : Int) (ht : 0 ≤ t ∧ t ≤ 1000000) (c : Nat) : CallWp Tryz.prog n_impl_demand [.sl 0 0 S.length c, .i .i64 t] [.ro (encTask.row S)] (fun x σ => x = .i .i64 (dbf S t) ∧ σ = [.ro (encTask.row S)]) := by
  refine call_impl_demand (by simp) ?_
  simp only [c_impl_demand, go_sem, Int.reduceToNat, List.take_nil, Nat.zero_mul, Nat.reduceEqDiff, Nat.reduceAdd, Nat.reduceLT, Nat.reduceLeDiff, Nat.reduceMul, ↓reduceIte, reduceCtorEq]
  refine loop_count S.length (fun k => ⟨[(1, .i .i64 t), (5, .i .i64 (dbf (S.take k) t)), (8, .sl 0 0 S.length c), (9, .i .i64 S.length), (10, .i .i64 k)], [.ro (encTask.row S)]⟩) (fun _ => True) trivial (by show Wk 1 33 _ ⟨[(1, .i .i64 t), (5, .i .i64 0), (8, .sl 0 0 S.length c), (9, .i .i64 S.length), (10, .i .i64 0)], [.ro (encTask.row S)]⟩; exact Wk.pick [0]) fun k hk _ => ?_
  simp only [l0_impl_demand, not_true_eq_false, not_false_eq_true, decide_true, decide_false, Bool.not_true, Bool.not_false, false_implies, true_implies, and_true, true_and, Bool.false_eq_true, Bool.true_eq_false, implies_true, Bool.not_not, Classical.not_not, go_sem, Int.reduceToNat, List.take_nil, Nat.zero_mul, Nat.reduceEqDiff, Nat.reduceAdd, Nat.reduceLT, Nat.reduceLeDiff, Nat.reduceMul, ↓reduceIte, reduceCtorEq]
  refine ⟨fun hlt => ?_, fun hge => ?_⟩
  · have hx := hS.2 _ (List.getElem_mem hlt)
    have hb1 := dbf1_bound hx ht.1
    have hb2 := dbfN_bound hS ht.1 k (by omega)
    rw [← dbf_take S t k (by omega)] at hb2
    have hn : dbf (S.take (k + 1)) t = dbf (S.take k) t + dbf1 S[k] t := by rw [List.take_succ_eq_append_getElem hlt, dbf_snoc]
    have h5 := hS.1
    have hb3 : (t + 1) * 8 * (k : Int) ≤ 8000008 * 5 := by
      refine Int.mul_le_mul (by omega) (by omega) (by omega) (by omega)
    unfold Task.ok at hx
    unfold dbf1 at hn hb1
    simp only [winT hlt, encT2, lenT, not_true_eq_false, not_false_eq_true, decide_true, decide_false, Bool.not_true, Bool.not_false, false_implies, true_implies, and_true, true_and, Bool.false_eq_true, Bool.true_eq_false, implies_true, Bool.not_not, Classical.not_not, go_sem, Int.reduceToNat, List.take_nil, Nat.zero_mul, Nat.reduceEqDiff, Nat.reduceAdd, Nat.reduceLT, Nat.reduceLeDiff, Nat.reduceMul, ↓reduceIte, reduceCtorEq]
    refine ⟨hlt, by omega, fun hd => ?_, fun hd => ?_⟩
    · rw [if_pos hd] at hn hb1
      have hq0 : 0 ≤ (t - S[k].D) / S[k].P := Int.ediv_nonneg (by omega) (by omega)
      have hq1 : (t - S[k].D) / S[k].P ≤ t - S[k].D := Int.ediv_le_self _ (by omega)
      rw [Int.tdiv_eq_ediv_of_nonneg (show 0 ≤ t - S[k].D by omega), hn]
      generalize (t - S[k].D) / S[k].P = q at *
      generalize (q + 1) * S[k].C = w at *
      exact ⟨by omega, by omega, by omega, by omega, by omega, by omega, by omega, hlt, Wk.pick [0]⟩
    · rw [if_neg hd] at hn
      rw [hn, Int.add_zero]
      exact ⟨by omega, hlt, Wk.pick [0]⟩
  · have ek : k = S.length := by omega
    subst ek
    rw [List.take_length]
    exact Fin.plain ⟨rfl, rfl⟩
theorem impl_demand_ {S : List Task} (hS : setOk S) {t : Int} (ht : 0 ≤ t ∧ t ≤ 1000000) {v : AV} {σ : List AB} (h : Rd encTask σ v S) {K : AV → List AB → Prop} (hk : K (.i .i64 (dbf S t)) σ) : CallWp Tryz.prog n_impl_demand [v, .i .i64 t] σ K :=
  call_rds _ (rds1 h.r) (fun c => [.sl 0 0 S.length (c 0), .i .i64 t]) (fun c => impl_demand0 S hS t ht (c 0)) (fun ν c h => ⟨h.1, .inl rfl, trivial⟩) (fun _ => rfl) rfl hk
def FovG (S : List Task) (x : AV) (τ : List AB) : Prop := τ = [] ∧ ∃ r, x = .i .i64 r ∧ ((¬ setOk S ∧ r = -1) ∨ (setOk S ∧ FovP S r))
theorem FovG.fr {S : List Task} {N : Nat} {x : AV} {τ : List AB} (h : FovG S x τ) : τ.all plainRw = true ∧ freshA N x = true := by
  obtain ⟨rfl, r, rfl, _⟩ := h
  exact ⟨rfl, rfl⟩
theorem impl_FirstOverload0 (S : List Task) (hs : S.length ≤ 1048576) (c : Nat) : CallWp Tryz.prog n_impl_FirstOverload [.sl 0 0 S.length c] [.ro (encTask.row S)] (fun x σ' => ∃ τ, σ' = [.ro (encTask.row S)] ++ τ ∧ FovG S x τ) := by
  refine call_impl_FirstOverload (by simp) ?_
  simp only [c_impl_FirstOverload, go_sem, Int.reduceToNat, List.take_nil, Nat.zero_mul, Nat.reduceEqDiff, Nat.reduceAdd, Nat.reduceLT, Nat.reduceLeDiff, Nat.reduceMul, ↓reduceIte, reduceCtorEq]
  refine impl_SetValid_ (L := S) (by omega) (Rd.own rfl) ?_
  simp only [not_true_eq_false, not_false_eq_true, decide_true, decide_false, Bool.not_true, Bool.not_false, false_implies, true_implies, and_true, true_and, Bool.false_eq_true, Bool.true_eq_false, implies_true, Bool.not_not, Classical.not_not, go_sem, Int.reduceToNat, List.take_nil, Nat.zero_mul, Nat.reduceEqDiff, Nat.reduceAdd, Nat.reduceLT, Nat.reduceLeDiff, Nat.reduceMul, ↓reduceIte, reduceCtorEq]
  refine ⟨fun hS => ?_, fun hS => ?_⟩
  · exact Fin.plain ⟨[], rfl, rfl, -1, rfl, .inl ⟨hS, rfl⟩⟩
  have hH := hyperN_bound hS (Nat.le_refl S.length)
  rw [List.take_length] at hH
  refine loop_count (hyperN S) (fun k => ⟨[(0, .sl 0 0 S.length c), (3, .i .i64 ((k : Int) + 1))], [.ro (encTask.row S)]⟩) (fun k => ∀ t : Int, 1 ≤ t → t < (k : Int) + 1 → dbf S t ≤ t) (fun t h1 h2 => by omega) (Wk.pick [0]) fun k hk hJ => ?_
  simp only [l0_impl_FirstOverload, not_true_eq_false, not_false_eq_true, decide_true, decide_false, Bool.not_true, Bool.not_false, false_implies, true_implies, and_true, true_and, Bool.false_eq_true, Bool.true_eq_false, implies_true, Bool.not_not, Classical.not_not, go_sem, Int.reduceToNat, List.take_nil, Nat.zero_mul, Nat.reduceEqDiff, Nat.reduceAdd, Nat.reduceLT, Nat.reduceLeDiff, Nat.reduceMul, ↓reduceIte, reduceCtorEq]
  refine impl_hyper_ hS (Rd.own rfl) ?_
  simp only [not_true_eq_false, not_false_eq_true, decide_true, decide_false, Bool.not_true, Bool.not_false, false_implies, true_implies, and_true, true_and, Bool.false_eq_true, Bool.true_eq_false, implies_true, Bool.not_not, Classical.not_not, go_sem, Int.reduceToNat, List.take_nil, Nat.zero_mul, Nat.reduceEqDiff, Nat.reduceAdd, Nat.reduceLT, Nat.reduceLeDiff, Nat.reduceMul, ↓reduceIte, reduceCtorEq]
  refine ⟨fun hle => impl_demand_ hS (by omega) (Rd.own rfl) ?_, fun hgt => ?_⟩
  · simp only [not_true_eq_false, not_false_eq_true, decide_true, decide_false, Bool.not_true, Bool.not_false, false_implies, true_implies, and_true, true_and, Bool.false_eq_true, Bool.true_eq_false, implies_true, Bool.not_not, Classical.not_not, go_sem, Int.reduceToNat, List.take_nil, Nat.zero_mul, Nat.reduceEqDiff, Nat.reduceAdd, Nat.reduceLT, Nat.reduceLeDiff, Nat.reduceMul, ↓reduceIte, reduceCtorEq]
    refine ⟨fun ho => ?_, fun ho => ⟨by omega, ⟨by omega, fun t h1 h2 => ?_⟩, ?_⟩⟩
    · exact Fin.plain ⟨[], rfl, rfl, (k : Int) + 1, rfl, .inr ⟨hS, .inr ⟨by omega, by omega, ho, fun t h1 h2 => hJ t h1 h2⟩⟩⟩
    · by_cases e : t = (k : Int) + 1
      · rw [e]; omega
      · exact hJ t h1 (by omega)
    · rw [show ((k + 1 : Nat) : Int) + 1 = (k : Int) + 1 + 1 by omega]
      exact Wk.pick [0]
  · exact Fin.plain ⟨[], rfl, rfl, -1, rfl, .inr ⟨hS, .inl ⟨rfl, fun t h1 h2 => hJ t h1 (by omega)⟩⟩⟩
theorem impl_FirstOverload_ {S : List Task} (hs : S.length ≤ 1048576) {v : AV} {σ : List AB} (h : Rd encTask σ v S) {K : AV → List AB → Prop} (hn : ¬ setOk S → K (.i .i64 (-1)) σ) (hy : setOk S → ∀ r, FovP S r → K (.i .i64 r) σ) : CallWp Tryz.prog n_impl_FirstOverload [v] σ K := by
  refine call_news _ (rds1 h.r) (fun c => [.sl 0 0 S.length (c 0)]) (FovG S) (fun c => impl_FirstOverload0 S hs (c 0)) (fun _ _ h => h.fr) (fun ν c h => ⟨h.1, trivial⟩) (fun _ => rfl) ?_
  rintro x τ ⟨rfl, r, rfl, ⟨h1, rfl⟩ | ⟨h1, h2⟩⟩
  · rw [List.append_nil]; exact hn h1
  · rw [List.append_nil]; exact hy h1 r h2
theorem impl_feasible0 (S : List Task) (hS : setOk S) (c : Nat) : CallWp Tryz.prog n_impl_feasible [.sl 0 0 S.length c] [.ro (encTask.row S)] (fun x σ => x = .b (decide (feas S)) ∧ σ = [.ro (encTask.row S)]) := by
  have h5 := hS.1
  refine call_impl_feasible (by simp) ?_
  simp only [c_impl_feasible, go_sem, Int.reduceToNat, List.take_nil, Nat.zero_mul, Nat.reduceEqDiff, Nat.reduceAdd, Nat.reduceLT, Nat.reduceLeDiff, Nat.reduceMul, ↓reduceIte, reduceCtorEq]
  refine impl_FirstOverload_ (S := S) (by omega) (Rd.own rfl) (fun h => absurd hS h) fun _ r hr => ?_
  simp only [not_true_eq_false, not_false_eq_true, decide_true, decide_false, Bool.not_true, Bool.not_false, false_implies, true_implies, and_true, true_and, Bool.false_eq_true, Bool.true_eq_false, implies_true, Bool.not_not, Classical.not_not, go_sem, Int.reduceToNat, List.take_nil, Nat.zero_mul, Nat.reduceEqDiff, Nat.reduceAdd, Nat.reduceLT, Nat.reduceLeDiff, Nat.reduceMul, ↓reduceIte, reduceCtorEq]
  refine Fin.plain ⟨?_, rfl⟩
  congr 1
  refine decide_eq_decide.2 ?_
  rcases hr with ⟨rfl, h⟩ | ⟨h1, h2, h3, _⟩
  · exact ⟨fun _ => ⟨hS, h⟩, fun _ => by decide⟩
  · exact ⟨fun h => by omega, fun h => by have := h.2 r h1 h2; omega⟩
theorem impl_feasible_ {S : List Task} (hS : setOk S) {v : AV} {σ : List AB} (h : Rd encTask σ v S) {K : AV → List AB → Prop} (hk : K (.b (decide (feas S))) σ) : CallWp Tryz.prog n_impl_feasible [v] σ K :=
  call_rds _ (rds1 h.r) (fun c => [.sl 0 0 S.length (c 0)]) (fun c => impl_feasible0 S hS (c 0)) (fun ν c h => ⟨h.1, trivial⟩) (fun _ => rfl) rfl hk
theorem impl_EdfFeasible0 (S : List Task) (hs : S.length ≤ 1048576) (c : Nat) : CallWp Tryz.prog n_impl_EdfFeasible [.sl 0 0 S.length c] [.ro (encTask.row S)] (fun x σ => x = .b (decide (feas S)) ∧ σ = [.ro (encTask.row S)]) := by
  refine call_impl_EdfFeasible (by simp) ?_
  simp only [c_impl_EdfFeasible, go_sem, Int.reduceToNat, List.take_nil, Nat.zero_mul, Nat.reduceEqDiff, Nat.reduceAdd, Nat.reduceLT, Nat.reduceLeDiff, Nat.reduceMul, ↓reduceIte, reduceCtorEq]
  refine impl_SetValid_ (L := S) (by omega) (Rd.own rfl) ?_
  simp only [not_true_eq_false, not_false_eq_true, decide_true, decide_false, Bool.not_true, Bool.not_false, false_implies, true_implies, and_true, true_and, Bool.false_eq_true, Bool.true_eq_false, implies_true, Bool.not_not, Classical.not_not, go_sem, Int.reduceToNat, List.take_nil, Nat.zero_mul, Nat.reduceEqDiff, Nat.reduceAdd, Nat.reduceLT, Nat.reduceLeDiff, Nat.reduceMul, ↓reduceIte, reduceCtorEq]
  refine ⟨fun hS => impl_feasible_ hS (Rd.own rfl) ?_, fun hS => ?_⟩
  · simp only [not_true_eq_false, not_false_eq_true, decide_true, decide_false, Bool.not_true, Bool.not_false, false_implies, true_implies, and_true, true_and, Bool.false_eq_true, Bool.true_eq_false, implies_true, Bool.not_not, Classical.not_not, go_sem, Int.reduceToNat, List.take_nil, Nat.zero_mul, Nat.reduceEqDiff, Nat.reduceAdd, Nat.reduceLT, Nat.reduceLeDiff, Nat.reduceMul, ↓reduceIte, reduceCtorEq]
    exact Fin.plain ⟨rfl, rfl⟩
  · rw [show decide (feas S) = false from decide_eq_false fun h => hS h.1]
    exact Fin.plain ⟨rfl, rfl⟩
theorem impl_EdfFeasible_ {S : List Task} (hs : S.length ≤ 1048576) {v : AV} {σ : List AB} (h : Rd encTask σ v S) {K : AV → List AB → Prop} (hk : K (.b (decide (feas S))) σ) : CallWp Tryz.prog n_impl_EdfFeasible [v] σ K :=
  call_rds _ (rds1 h.r) (fun c => [.sl 0 0 S.length (c 0)]) (fun c => impl_EdfFeasible0 S hs (c 0)) (fun ν c h => ⟨h.1, trivial⟩) (fun _ => rfl) rfl hk
end Go.Proofs.YtfngcejaphhmmaaGreatDoor
