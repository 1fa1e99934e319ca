import Derived.Test.YtfngcejaphhmmaaDoorS98
import Derived.Test.YtfngcejaphhmmaaDoorD1
import Derived.Test.YtfngcejaphhmmaaDoorD2
import Derived.Test.YtfngcejaphhmmaaDoorD4
namespace Go.Proofs.YtfngcejaphhmmaaDoor
open Go.Abs Go.Ds
set_option linter.unusedSimpArgs false
set_option linter.unusedVariables false
set_option maxRecDepth 20000
set_option maxHeartbeats 2000000
def StrP (n p : Int) (m : Nat) (x : AV) (p' : Int) (τ : List AB) : Prop := (p ≤ p' ∧ p' ≤ p + n) ∧ τ = [] ∧ ∃ l : List UInt8, x = .s (bs l) ∧ l.length ≤ m
theorem spec_l20Mutate0 (B : List Nat) (p : Int) (hC : Code B) (hp : 0 ≤ p ∧ p ≤ 3800000000000) (s : List UInt8) (hs : s.length ≤ 1000) (c : Nat) : CallWp Tryd.prog n_spec_l20Mutate [.p 1 0, .s (bs s)] (rdr B c p) (fun x σ' => ∃ p' τ, σ' = rdr B c p' ++ τ ∧ StrP 4 p (s.length + 1) x p' τ) := by
  refine call_spec_l20Mutate (by simp) ?_
  simp only [c_spec_l20Mutate, not_true_eq_false, not_false_eq_true, decide_true, decide_false, Bool.not_true, Bool.not_false, false_implies, true_implies, and_true, true_and, Bool.false_eq_true, Bool.true_eq_false, implies_true, Bool.not_not, Classical.not_not, go_sem, Int.reduceToNat, List.take_nil, Nat.zero_mul, Nat.reduceEqDiff, Nat.reduceAdd, Nat.reduceLT, Nat.reduceLeDiff, Nat.reduceMul, ↓reduceIte, reduceCtorEq]
  refine ⟨by omega, spec_l20Rd_pick_ (Rdr.of (τ := [])) hC (by omega) _ (by omega) fun k k1 k2 _ => ?_⟩
  simp only [not_true_eq_false, not_false_eq_true, decide_true, decide_false, Bool.not_true, Bool.not_false, false_implies, true_implies, and_true, true_and, Bool.false_eq_true, Bool.true_eq_false, implies_true, Bool.not_not, Classical.not_not, go_sem, Int.reduceToNat, List.take_nil, Nat.zero_mul, Nat.reduceEqDiff, Nat.reduceAdd, Nat.reduceLT, Nat.reduceLeDiff, Nat.reduceMul, ↓reduceIte, reduceCtorEq]
  refine spec_l20Rd_pick_ (Rdr.of (τ := [])) hC (by omega) _ (by omega) fun r1 h11 h12 _ => ?_
  simp only [not_true_eq_false, not_false_eq_true, decide_true, decide_false, Bool.not_true, Bool.not_false, false_implies, true_implies, and_true, true_and, Bool.false_eq_true, Bool.true_eq_false, implies_true, Bool.not_not, Classical.not_not, go_sem, Int.reduceToNat, List.take_nil, Nat.zero_mul, Nat.reduceEqDiff, Nat.reduceAdd, Nat.reduceLT, Nat.reduceLeDiff, Nat.reduceMul, ↓reduceIte, reduceCtorEq]
  refine spec_l20Rd_pick_ (Rdr.of (τ := [_])) hC (by omega) _ (by omega) fun r2 h21 h22 _ => ?_
  obtain ⟨u, hu, eu⟩ := rd_int [32, 48, 49, 116, r1] r2.toNat (by simp; omega)
  simp only [List.map_cons, List.map_nil] at eu
  have hu1 : 0 ≤ u ∧ u ≤ 255 := by simp at hu; omega
  simp only [eu, toBy1, isBy1, not_true_eq_false, not_false_eq_true, decide_true, decide_false, Bool.not_true, Bool.not_false, false_implies, true_implies, and_true, true_and, Bool.false_eq_true, Bool.true_eq_false, implies_true, Bool.not_not, Classical.not_not, go_sem, Int.reduceToNat, List.take_nil, Nat.zero_mul, Nat.reduceEqDiff, Nat.reduceAdd, Nat.reduceLT, Nat.reduceLeDiff, Nat.reduceMul, ↓reduceIte, reduceCtorEq]
  refine ⟨by omega, by omega, by omega, ?_⟩
  have hk : 0 ≤ k ∧ k ≤ s.length := ⟨k1, by omega⟩
  obtain ⟨m, rfl⟩ : ∃ m : Nat, k = m := ⟨k.toNat, by omega⟩
  have ans : ∀ l : List UInt8, l.length ≤ s.length + 1 → ∃ p' τ, rdr B c (p + 1 + 1 + 1 + 1) = .ro (encByte.row B) :: .rw ty_spec_l20Rd [.sl 0 0 B.length c, .i .i64 p'] 2 :: τ ∧ StrP 4 p (s.length + 1) (.s (bs l)) p' τ := fun l hl => ⟨p + 1 + 1 + 1 + 1, [], rfl, ⟨by omega, by omega⟩, rfl, l, rfl, hl⟩
  have fin : ∀ (l : List UInt8) (x y : AB), l.length ≤ s.length + 1 → Fin 2 [.ro (encByte.row B), .rw ty_spec_l20Rd [.sl 0 0 B.length c, .i .i64 (p + 1 + 1 + 1 + 1)] 2, x, y] (.s (bs l)) (fun x σ' => ∃ p' τ, σ' = .ro (encByte.row B) :: .rw ty_spec_l20Rd [.sl 0 0 B.length c, .i .i64 p'] 2 :: τ ∧ StrP 4 p (s.length + 1) x p' τ) := fun l x y hl =>
    Fin.pick [0, 1] (.s (bs l)) (rdr B c (p + 1 + 1 + 1 + 1)) (ans l hl)
  have hm1 : ((m : Int) + 1).toNat = m + 1 := by omega
  refine seq_join (fun _ : Unit => ⟨[(1, .s (bs s))], rdr B c (p + 1 + 1 + 1 + 1)⟩) (fun _ => True) ?_ ?_
  · simp only [not_true_eq_false, not_false_eq_true, decide_true, decide_false, Bool.not_true, Bool.not_false, false_implies, true_implies, and_true, true_and, Bool.false_eq_true, Bool.true_eq_false, implies_true, Bool.not_not, Classical.not_not, go_sem, Int.reduceToNat, List.take_nil, Nat.zero_mul, Nat.reduceEqDiff, Nat.reduceAdd, Nat.reduceLT, Nat.reduceLeDiff, Nat.reduceMul, ↓reduceIte, reduceCtorEq]
    refine spec_l20Rd_pick_ (Rdr.of (τ := [_, _])) hC (by omega) _ (by omega) fun r3 h31 h32 _ => ?_
    simp only [hm1, List.length_append, List.length_cons, List.length_nil, List.length_take, List.length_drop, not_true_eq_false, not_false_eq_true, decide_true, decide_false, Bool.not_true, Bool.not_false, false_implies, true_implies, and_true, true_and, Bool.false_eq_true, Bool.true_eq_false, implies_true, Bool.not_not, Classical.not_not, go_sem, Int.reduceToNat, List.take_nil, Nat.zero_mul, Nat.reduceEqDiff, Nat.reduceAdd, Nat.reduceLT, Nat.reduceLeDiff, Nat.reduceMul, ↓reduceIte, reduceCtorEq]
    repeat' first
      | omega
      | exact kJ_intro () trivial (Wk.pick [0, 1])
      | (refine fin _ _ _ ?_; simp only [List.length_append, List.length_cons, List.length_nil, List.length_take, List.length_drop]; omega)
      | refine ⟨?_, ?_⟩
      | intro _
  · rintro _ _
    simp only [not_true_eq_false, not_false_eq_true, decide_true, decide_false, Bool.not_true, Bool.not_false, false_implies, true_implies, and_true, true_and, Bool.false_eq_true, Bool.true_eq_false, implies_true, Bool.not_not, Classical.not_not, go_sem, Int.reduceToNat, List.take_nil, Nat.zero_mul, Nat.reduceEqDiff, Nat.reduceAdd, Nat.reduceLT, Nat.reduceLeDiff, Nat.reduceMul, ↓reduceIte, reduceCtorEq]
    exact Fin.plain (ans s (by omega))
theorem spec_l20Mutate_ {σ : List AB} {n m o c : Nat} {B : List Nat} {p : Int} (h : Rdr ty_spec_l20Rd σ n B p m o c) (hC : Code B) (hp : 0 ≤ p ∧ p ≤ 3800000000000) (s : List UInt8) (hs : s.length ≤ 1000) {K : AV → List AB → Prop}
    (hK : ∀ (l : List UInt8) (p' : Int), p ≤ p' → p' ≤ p + 4 → l.length ≤ s.length + 1 → K (.s (bs l)) (σ.set n (.rw ty_spec_l20Rd [.sl m o B.length c, .i .i64 p'] 2))) : CallWp Tryd.prog n_spec_l20Mutate [.p n 0, .s (bs s)] σ K := by
  refine call_rdr ty_spec_l20Rd h [] (by simp) (fun _ => [.s (bs s)]) (StrP 4 p (s.length + 1)) (fun _ => spec_l20Mutate0 B p hC hp s hs c) ?_ (fun _ _ _ => ⟨.inl rfl, trivial⟩) (fun _ => rfl) ?_
  · rintro x p' τ ⟨_, rfl, l, rfl, _⟩; exact ⟨rfl, rfl⟩
  · rintro x p' τ ⟨⟨h1, h2⟩, rfl, l, rfl, h3⟩
    rw [List.append_nil]; exact hK l p' h1 h2 h3
theorem spec_l20Open01 (C : List Nat) (c : Nat) : CallWp Tryd.prog n_spec_l20Open [.sl 0 0 C.length c] [.ro (encByte.row C)] (fun x σ' => x = .p 1 0 ∧ σ' = [.ro (encByte.row C), .rw ty_spec_l20Rd [.sl 0 0 (C.take 2000).length c, .i .i64 0] 2]) := by
  refine call_spec_l20Open (by simp) ?_
  simp only [c_spec_l20Open, go_sem, Int.reduceToNat, List.take_nil, Nat.zero_mul, Nat.reduceEqDiff, Nat.reduceAdd, Nat.reduceLT, Nat.reduceLeDiff, Nat.reduceMul, ↓reduceIte, reduceCtorEq]
  refine seq_join (fun _ : Unit => ⟨[(0, .sl 0 0 (C.take 2000).length c)], [.ro (encByte.row C)]⟩) (fun _ => True) ?_ fun _ _ => ?_
  · simp only [go_sem, Int.reduceToNat, List.take_nil, Nat.zero_mul, Nat.reduceEqDiff, Nat.reduceAdd, Nat.reduceLT, Nat.reduceLeDiff, Nat.reduceMul, ↓reduceIte, reduceCtorEq]
    refine ⟨fun h => ⟨by omega, by omega, kJ_intro () trivial ?_⟩, fun h => kJ_intro () trivial ?_⟩
    · have : (C.take 2000).length = 2000 := by rw [List.length_take]; omega
      rw [this]
      exact Wk.pick [0]
    · rw [List.take_of_length_le (by omega)]; exact Wk.pick [0]
  · simp only [go_sem, Int.reduceToNat, List.take_nil, Nat.zero_mul, Nat.reduceEqDiff, Nat.reduceAdd, Nat.reduceLT, Nat.reduceLeDiff, Nat.reduceMul, ↓reduceIte, reduceCtorEq]
    exact Fin.plain ⟨rfl, rfl⟩
theorem spec_DrawParseTask0 (C : List Nat) (hC : ∀ x ∈ C, x < 256) (c : Nat) : CallWp Tryd.prog n_spec_DrawParseTask [.sl 0 0 C.length c] [.ro (encByte.row C)] (fun x σ' => (∃ l : List UInt8, x = .s (bs l) ∧ l.length ≤ 1000) ∧ σ' = [.ro (encByte.row C)]) := by
  refine call_spec_DrawParseTask (by simp) ?_
  simp only [c_spec_DrawParseTask, not_true_eq_false, not_false_eq_true, decide_true, decide_false, Bool.not_true, Bool.not_false, false_implies, true_implies, and_true, true_and, Bool.false_eq_true, Bool.true_eq_false, implies_true, Bool.not_not, Classical.not_not, go_sem, Int.reduceToNat, List.take_nil, Nat.zero_mul, Nat.reduceEqDiff, Nat.reduceAdd, Nat.reduceLT, Nat.reduceLeDiff, Nat.reduceMul, ↓reduceIte, reduceCtorEq]
  refine (spec_l20Open01 C c).mono ?_
  rintro x σ' _ ⟨rfl, rfl⟩
  simp only [not_true_eq_false, not_false_eq_true, decide_true, decide_false, Bool.not_true, Bool.not_false, false_implies, true_implies, and_true, true_and, Bool.false_eq_true, Bool.true_eq_false, implies_true, Bool.not_not, Classical.not_not, go_sem, Int.reduceToNat, List.take_nil, Nat.zero_mul, Nat.reduceEqDiff, Nat.reduceAdd, Nat.reduceLT, Nat.reduceLeDiff, Nat.reduceMul, ↓reduceIte, reduceCtorEq]
  refine spec_l20Task_ (Rdr.take (τ := [])) (Code.take hC) (by omega) _ (by omega) fun t p1 h11 h12 _ _ => ?_
  simp only [not_true_eq_false, not_false_eq_true, decide_true, decide_false, Bool.not_true, Bool.not_false, false_implies, true_implies, and_true, true_and, Bool.false_eq_true, Bool.true_eq_false, implies_true, Bool.not_not, Classical.not_not, go_sem, Int.reduceToNat, List.take_nil, Nat.zero_mul, Nat.reduceEqDiff, Nat.reduceAdd, Nat.reduceLT, Nat.reduceLeDiff, Nat.reduceMul, ↓reduceIte, reduceCtorEq]
  refine spec_FormatTask_ t ?_
  simp only [not_true_eq_false, not_false_eq_true, decide_true, decide_false, Bool.not_true, Bool.not_false, false_implies, true_implies, and_true, true_and, Bool.false_eq_true, Bool.true_eq_false, implies_true, Bool.not_not, Classical.not_not, go_sem, Int.reduceToNat, List.take_nil, Nat.zero_mul, Nat.reduceEqDiff, Nat.reduceAdd, Nat.reduceLT, Nat.reduceLeDiff, Nat.reduceMul, ↓reduceIte, reduceCtorEq]
  have hf := fmt_len t
  have fin : ∀ (l : List UInt8) (τ : List AB), l.length ≤ 1000 → Fin 1 (.ro (encByte.row C) :: τ) (.s (bs l)) (fun x σ' => (∃ l : List UInt8, x = .s (bs l) ∧ l.length ≤ 1000) ∧ σ' = [.ro (encByte.row C)]) := fun l τ hl =>
    Fin.pick [0] (.s (bs l)) [.ro (encByte.row C)] ⟨⟨l, rfl, hl⟩, rfl⟩
  refine spec_l20Rd_pick_ (Rdr.take (τ := [])) (Code.take hC) (by omega) _ (by omega) fun r h21 h22 _ => ?_
  simp only [not_true_eq_false, not_false_eq_true, decide_true, decide_false, Bool.not_true, Bool.not_false, false_implies, true_implies, and_true, true_and, Bool.false_eq_true, Bool.true_eq_false, implies_true, Bool.not_not, Classical.not_not, go_sem, Int.reduceToNat, List.take_nil, Nat.zero_mul, Nat.reduceEqDiff, Nat.reduceAdd, Nat.reduceLT, Nat.reduceLeDiff, Nat.reduceMul, ↓reduceIte, reduceCtorEq]
  refine ⟨fun h0 => ?_, fun h0 => ⟨fun h1 => ?_, fun h1 => fin _ _ (by omega)⟩⟩
  · refine spec_l20Mutate_ (Rdr.take (τ := [])) (Code.take hC) (by omega) _ (by omega) fun l p' _ _ hl => ?_
    simp only [not_true_eq_false, not_false_eq_true, decide_true, decide_false, Bool.not_true, Bool.not_false, false_implies, true_implies, and_true, true_and, Bool.false_eq_true, Bool.true_eq_false, implies_true, Bool.not_not, Classical.not_not, go_sem, Int.reduceToNat, List.take_nil, Nat.zero_mul, Nat.reduceEqDiff, Nat.reduceAdd, Nat.reduceLT, Nat.reduceLeDiff, Nat.reduceMul, ↓reduceIte, reduceCtorEq]
    exact fin _ _ (by omega)
  · refine spec_l20Rd_pick_ (Rdr.take (τ := [_])) (Code.take hC) (by omega) _ (by omega) fun r2 h31 h32 _ => ?_
    have h10 : r2 = 0 ∨ r2 = 1 ∨ r2 = 2 ∨ r2 = 3 ∨ r2 = 4 ∨ r2 = 5 ∨ r2 = 6 ∨ r2 = 7 ∨ r2 = 8 ∨ r2 = 9 := by omega
    rcases h10 with rfl | rfl | rfl | rfl | rfl | rfl | rfl | rfl | rfl | rfl
    all_goals
      simp only [not_true_eq_false, not_false_eq_true, decide_true, decide_false, Bool.not_true, Bool.not_false, false_implies, true_implies, and_true, true_and, Bool.false_eq_true, Bool.true_eq_false, implies_true, Bool.not_not, Classical.not_not, go_sem, Int.reduceToNat, List.take_nil, Nat.zero_mul, Nat.reduceEqDiff, Nat.reduceAdd, Nat.reduceLT, Nat.reduceLeDiff, Nat.reduceMul, ↓reduceIte, reduceCtorEq]
      exact ⟨by omega, fin _ _ (by decide)⟩
theorem spec_l20Open2 {A : AB} (C : List Nat) (c : Nat) : CallWp Tryd.prog n_spec_l20Open [.sl 0 0 C.length c] [.ro (encByte.row C), A] (fun x σ' => x = .p 2 0 ∧ σ' = [.ro (encByte.row C), A, .rw ty_spec_l20Rd [.sl 0 0 (C.take 2000).length c, .i .i64 0] 2]) := by
  refine call_spec_l20Open (by simp) ?_
  simp only [c_spec_l20Open, go_sem, Int.reduceToNat, List.take_nil, Nat.zero_mul, Nat.reduceEqDiff, Nat.reduceAdd, Nat.reduceLT, Nat.reduceLeDiff, Nat.reduceMul, ↓reduceIte, reduceCtorEq]
  refine seq_join (fun _ : Unit => ⟨[(0, .sl 0 0 (C.take 2000).length c)], [.ro (encByte.row C), A]⟩) (fun _ => True) ?_ fun _ _ => ?_
  · simp only [go_sem, Int.reduceToNat, List.take_nil, Nat.zero_mul, Nat.reduceEqDiff, Nat.reduceAdd, Nat.reduceLT, Nat.reduceLeDiff, Nat.reduceMul, ↓reduceIte, reduceCtorEq]
    refine ⟨fun h => ⟨by omega, by omega, kJ_intro () trivial ?_⟩, fun h => kJ_intro () trivial ?_⟩
    · have : (C.take 2000).length = 2000 := by rw [List.length_take]; omega
      rw [this]
      exact Wk.keep (by
      intro p hp
      simp only [List.mem_singleton] at hp
      subst hp
      simp [look_cons])
    · rw [List.take_of_length_le (by omega)]; exact Wk.keep (by
      intro p hp
      simp only [List.mem_singleton] at hp
      subst hp
      simp [look_cons])
  · simp only [go_sem, Int.reduceToNat, List.take_nil, Nat.zero_mul, Nat.reduceEqDiff, Nat.reduceAdd, Nat.reduceLT, Nat.reduceLeDiff, Nat.reduceMul, ↓reduceIte, reduceCtorEq]
    exact Fin.plain ⟨rfl, rfl⟩
theorem Rdr.take2 {C : List Nat} {A : AB} {c : Nat} {p : Int} {τ : List AB} : Rdr ty_spec_l20Rd (.ro (encByte.row C) :: A :: .rw ty_spec_l20Rd [.sl 0 0 (C.take 2000).length c, .i .i64 p] 2 :: τ) 2 (C.take 2000) p 0 0 c := by
  have h := Rdr.take (C := C) (c := c) (p := p) (τ := τ)
  obtain ⟨cs, hcs, hle, hw⟩ := h.win
  have hcs' : cs = encByte.row C := by simpa [cellsOf] using hcs.symm
  subst hcs'
  exact ⟨rfl, by decide, encByte.row C, rfl, hle, hw⟩
theorem spec_DrawFormatTask0 (C : List Nat) (hC : ∀ x ∈ C, x < 256) (c : Nat) : CallWp Tryd.prog n_spec_DrawFormatTask [.sl 0 0 C.length c] [.ro (encByte.row C)] (fun x σ' => (∃ t : Task, x = tAV t) ∧ σ' = [.ro (encByte.row C)]) := by
  refine call_spec_DrawFormatTask (by simp) ?_
  simp only [c_spec_DrawFormatTask, not_true_eq_false, not_false_eq_true, decide_true, decide_false, Bool.not_true, Bool.not_false, false_implies, true_implies, and_true, true_and, Bool.false_eq_true, Bool.true_eq_false, implies_true, Bool.not_not, Classical.not_not, go_sem, Int.reduceToNat, List.take_nil, Nat.zero_mul, Nat.reduceEqDiff, Nat.reduceAdd, Nat.reduceLT, Nat.reduceLeDiff, Nat.reduceMul, ↓reduceIte, reduceCtorEq]
  refine (spec_l20Open2 C c).mono ?_
  rintro x σ' _ ⟨rfl, rfl⟩
  simp only [not_true_eq_false, not_false_eq_true, decide_true, decide_false, Bool.not_true, Bool.not_false, false_implies, true_implies, and_true, true_and, Bool.false_eq_true, Bool.true_eq_false, implies_true, Bool.not_not, Classical.not_not, go_sem, Int.reduceToNat, List.take_nil, Nat.zero_mul, Nat.reduceEqDiff, Nat.reduceAdd, Nat.reduceLT, Nat.reduceLeDiff, Nat.reduceMul, ↓reduceIte, reduceCtorEq]
  refine spec_l20Task_ (Rdr.take2 (τ := [])) (Code.take hC) (by omega) _ (by omega) fun t p1 h11 h12 _ _ => ?_
  simp only [not_true_eq_false, not_false_eq_true, decide_true, decide_false, Bool.not_true, Bool.not_false, false_implies, true_implies, and_true, true_and, Bool.false_eq_true, Bool.true_eq_false, implies_true, Bool.not_not, Classical.not_not, go_sem, Int.reduceToNat, List.take_nil, Nat.zero_mul, Nat.reduceEqDiff, Nat.reduceAdd, Nat.reduceLT, Nat.reduceLeDiff, Nat.reduceMul, ↓reduceIte, reduceCtorEq]
  exact Fin.pick [0] (.agg [.i .i64 t.C, .i .i64 t.D, .i .i64 t.P]) [.ro (encByte.row C)] ⟨⟨t, rfl⟩, rfl⟩
theorem spec_DrawFormatTask_ {C : List Nat} (hC : ∀ x ∈ C, x < 256) {v : AV} {σ : List AB} (h : Rd encByte σ v C) (hl : C.length ≤ 1099511627776) {K : AV → List AB → Prop} (hk : ∀ t, K (tAV t) σ) : CallWp Tryd.prog n_spec_DrawFormatTask [v] σ K := by
  refine call_news _ (rds1 h.r) (fun c => [.sl 0 0 C.length (c 0)]) (fun x τ => (∃ t, x = tAV t) ∧ τ = []) (fun c => (spec_DrawFormatTask0 C hC (c 0)).mono fun x σ _ h => ⟨[], by rw [h.2]; rfl, h.1, rfl⟩) ?_ (fun ν c h => ⟨h.1, trivial⟩) (fun _ => rfl) ?_
  · rintro x τ ⟨⟨t, rfl⟩, rfl⟩; simp [freshA, fresh1A, freshC, tAV, flat]
  · rintro x τ ⟨⟨t, rfl⟩, rfl⟩; rw [List.append_nil]; exact hk t
theorem spec_DrawParseTask_ {C : List Nat} (hC : ∀ x ∈ C, x < 256) {v : AV} {σ : List AB} (h : Rd encByte σ v C) (hl : C.length ≤ 1099511627776) {K : AV → List AB → Prop} (hk : ∀ l : List UInt8, l.length ≤ 1000 → K (.s (bs l)) σ) : CallWp Tryd.prog n_spec_DrawParseTask [v] σ K := by
  refine call_news _ (rds1 h.r) (fun c => [.sl 0 0 C.length (c 0)]) (fun x τ => (∃ l : List UInt8, x = .s (bs l) ∧ l.length ≤ 1000) ∧ τ = []) (fun c => (spec_DrawParseTask0 C hC (c 0)).mono fun x σ _ h => ⟨[], by rw [h.2]; rfl, h.1, rfl⟩) ?_ (fun ν c h => ⟨h.1, trivial⟩) (fun _ => rfl) ?_
  · rintro x τ ⟨⟨l, rfl, _⟩, rfl⟩; exact ⟨rfl, rfl⟩
  · rintro x τ ⟨⟨l, rfl, hl⟩, rfl⟩; rw [List.append_nil]; exact hk l hl
end Go.Proofs.YtfngcejaphhmmaaDoor
