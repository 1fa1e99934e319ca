import Derived.Test.YtfngcejaphhmmaaGreatDoorS24
import Derived.Test.YtfngcejaphhmmaaGreatDoorSS
namespace Go.Proofs.YtfngcejaphhmmaaGreatDoor
open Go.Abs Go.Ds
set_option linter.unusedSimpArgs false
set_option linter.unusedVariables false
set_option maxRecDepth 20000
set_option maxHeartbeats 2000000
abbrev dl (S : List Task) : Int → Int := fun x => (gT S x).D
def IsDM (S : List Task) (O : List Int) : Prop := setOk S ∧ Srt (dl S) O ∧ ∀ x, x ∈ O ↔ 0 ≤ x ∧ x < (S.length : Int)
theorem srt_nodup {d : Int → Int} {L : List Int} (h : Srt d L) : L.Nodup :=
  List.Pairwise.imp (fun {a b} (hlt : ltK d a b) (e : a = b) => ltK_irr (by rw [e] at hlt; exact hlt)) h
theorem srt_ext {d : Int → Int} : ∀ {A B : List Int}, Srt d A → Srt d B → (∀ x, x ∈ A ↔ x ∈ B) → A = B
  | [], [], _, _, _ => rfl
  | [], b :: B, _, _, h => absurd ((h b).2 (by simp)) (by simp)
  | a :: A, [], _, _, h => absurd ((h a).1 (by simp)) (by simp)
  | a :: A, b :: B, hA, hB, h => by
    have hA' := List.pairwise_cons.1 hA
    have hB' := List.pairwise_cons.1 hB
    have e : a = b := by
      rcases List.mem_cons.1 ((h a).1 (by simp)) with e | h1
      · exact e
      · rcases List.mem_cons.1 ((h b).2 (by simp)) with e | h2
        · exact e.symm
        · exact (ltK_irr (ltK_trans (hA'.1 b h2) (hB'.1 a h1))).elim
    subst e
    rw [srt_ext hA'.2 hB'.2 fun x => ?_]
    have hx := h x
    simp only [List.mem_cons] at hx
    constructor
    · intro hm
      rcases hx.1 (.inr hm) with rfl | h1
      · exact (ltK_irr (hA'.1 x hm)).elim
      · exact h1
    · intro hm
      rcases hx.2 (.inr hm) with rfl | h1
      · exact (ltK_irr (hB'.1 x hm)).elim
      · exact h1
theorem IsDM.eq {S : List Task} {A B : List Int} (hA : IsDM S A) (hB : IsDM S B) : A = B := srt_ext hA.2.1 hB.2.1 fun x => by rw [hA.2.2, hB.2.2]
theorem IsDM.perm {S : List Task} {O : List Int} (hS : setOk S) (hp : O.Perm (idxs S.length)) (hs : Srt (dl S) O) : IsDM S O := by
  refine ⟨hS, hs, fun x => ?_⟩
  rw [hp.mem_iff]
  refine ⟨(idxs_ok S.length).2 x, fun h => ?_⟩
  unfold idxs
  rw [List.mem_map]
  exact ⟨x.toNat, by rw [List.mem_range]; omega, by omega⟩
theorem IsDM.ord {S : List Task} {O : List Int} (h : IsDM S O) : ordOk S O := by
  have hn : O.Nodup := srt_nodup h.2.1
  refine ⟨h.1, Nat.le_antisymm (nodup_len _ _ hn fun x hx => (h.2.2 x).1 hx) ?_, fun k hk => (h.2.2 k).1 hk, hn⟩
  have hi := idxs_ok S.length
  have := hi.1.length_le_of_subset (l₂ := O) fun x hx => (h.2.2 x).2 (hi.2 x hx)
  rwa [idxs_length] at this
theorem IsDM.le {S : List Task} {O : List Int} (h : IsDM S O) : O.Pairwise fun x y => (gT S x).D ≤ (gT S y).D := h.2.1.imp fun h => by
  unfold ltK dl at h
  omega
theorem asc_idxs (n : Nat) : Asc (idxs n) := by
  refine List.pairwise_iff_getElem.2 fun i j hi hj hij => ?_
  rw [idxs_get, idxs_get]; omega
theorem dm_sortE {S : List Task} (hS : setOk S) (c r cap : Nat) : SortE (fun W => dmσ S c r cap W) 2 cap n_impl_DeadlineMonotonic_1 [(1, 0)] (fun x y => (gT S x).D - (gT S y).D) (dl S) S.length :=
  ⟨fun W => rfl, fun W W' => rfl, fun W x y hx hy => impl_DM1_ hS (c := c) rfl rfl hx hy ⟨rfl, rfl⟩, fun x y _ _ => by unfold dl; omega⟩
theorem dm_sort {S : List Task} (hS : setOk S) {c r cap cW len : Nat} {W : List Int} (hlen : W.length = len) (hl : len ≤ 60) (rW : ∀ x ∈ W, 0 ≤ x ∧ x < (S.length : Int)) (hW : Asc W) {K : AV → List AB → Prop}
    (hk : ∀ Z : List Int, Z.Perm W → Srt (dl S) Z → K (.tup []) (dmσ S c r cap Z)) : CallWp Tryz.prog n_slices_SortStableFunc_int [.sl 2 0 len cW, .fn n_impl_DeadlineMonotonic_1 [] [(1, 0)]] (dmσ S c r cap W) K := by
  subst hlen
  exact sortStable_ (dm_sortE hS c r cap) (by omega) rW hW hk
def DmE (N : Nat) (S : List Task) (x : AV) (τ : List AB) : Prop := (¬ setOk S ∧ x = .sn ∧ τ = []) ∨ ∃ (O : List Int) (cap cc : Nat), IsDM S O ∧ x = .sl N 0 S.length cap ∧ τ = [.rw ty_int (encInt.row O) cc]
theorem DmE.fr {N : Nat} {S : List Task} {x : AV} {τ : List AB} (h : DmE N S x τ) : τ.all plainRw = true ∧ freshA N x = true := by
  rcases h with ⟨_, rfl, rfl⟩ | ⟨O, cap, cc, _, rfl, rfl⟩
  · exact ⟨rfl, rfl⟩
  · simp [plainRw, encInt.row_flat, freshA, fresh1A, freshC]
theorem impl_DM0 (S : List Task) (hs : S.length ≤ 1048576) (c : Nat) : CallWp Tryz.prog n_impl_DeadlineMonotonic [.sl 0 0 S.length c] [.ro (encTask.row S)] (fun x σ' => ∃ τ, σ' = [.ro (encTask.row S)] ++ τ ∧ DmE 1 S x τ) := by
  refine call_impl_DeadlineMonotonic (by simp) ?_
  simp only [c_impl_DeadlineMonotonic, not_true_eq_false, not_false_eq_true, decide_true, decide_false, Bool.not_true, Bool.not_false, false_implies, true_implies, and_true, true_and, Bool.false_eq_true, Bool.true_eq_false, implies_true, Bool.not_not, Classical.not_not, go_sem, Int.reduceToNat, List.take_nil, Nat.zero_mul, Nat.reduceEqDiff, Nat.reduceAdd, Nat.reduceLT, Nat.reduceLeDiff, Nat.reduceMul, ↓reduceIte, reduceCtorEq]
  refine impl_SetValid_ (L := S) (by omega) (Rd.own rfl) ?_
  simp only [not_true_eq_false, not_false_eq_true, decide_true, decide_false, Bool.not_true, Bool.not_false, false_implies, true_implies, and_true, true_and, Bool.false_eq_true, Bool.true_eq_false, implies_true, Bool.not_not, Classical.not_not, go_sem, Int.reduceToNat, List.take_nil, Nat.zero_mul, Nat.reduceEqDiff, Nat.reduceAdd, Nat.reduceLT, Nat.reduceLeDiff, Nat.reduceMul, ↓reduceIte, reduceCtorEq]
  refine ⟨fun hS => ?_, fun hS => ?_⟩
  · exact Fin.pick [0] .sn [.ro (encTask.row S)] ⟨[], rfl, .inl ⟨hS, rfl, rfl⟩⟩
  have h5 := hS.1
  have hl := idxs_length S.length
  refine impl_indices0 S.length (by omega) ?_
  simp only [not_true_eq_false, not_false_eq_true, decide_true, decide_false, Bool.not_true, Bool.not_false, false_implies, true_implies, and_true, true_and, Bool.false_eq_true, Bool.true_eq_false, implies_true, Bool.not_not, Classical.not_not, go_sem, Int.reduceToNat, List.take_nil, Nat.zero_mul, Nat.reduceEqDiff, Nat.reduceAdd, Nat.reduceLT, Nat.reduceLeDiff, Nat.reduceMul, ↓reduceIte, reduceCtorEq]
  refine dm_sort hS (W := idxs S.length) hl (by omega) (idxs_ok _).2 (asc_idxs _) fun Z p s => ?_
  simp only [dmσ, not_true_eq_false, not_false_eq_true, decide_true, decide_false, Bool.not_true, Bool.not_false, false_implies, true_implies, and_true, true_and, Bool.false_eq_true, Bool.true_eq_false, implies_true, Bool.not_not, Classical.not_not, go_sem, Int.reduceToNat, List.take_nil, Nat.zero_mul, Nat.reduceEqDiff, Nat.reduceAdd, Nat.reduceLT, Nat.reduceLeDiff, Nat.reduceMul, ↓reduceIte, reduceCtorEq]
  exact Fin.pick [0, 2] (.sl 1 0 S.length S.length) _ ⟨[.rw ty_int (encInt.row Z) S.length], rfl, .inr ⟨Z, S.length, S.length, IsDM.perm hS p s, rfl, rfl⟩⟩
theorem impl_DM_ {S : List Task} (hs : S.length ≤ 1048576) {v : AV} {σ : List AB} (h : Rd encTask σ v S) {K : AV → List AB → Prop} (hn : ¬ setOk S → K .sn σ) (hy : ∀ O cap cc, IsDM S O → K (.sl σ.length 0 S.length cap) (σ ++ [.rw ty_int (encInt.row O) cc])) : CallWp Tryz.prog n_impl_DeadlineMonotonic [v] σ K := by
  refine call_news _ (rds1 h.r) (fun c => [.sl 0 0 S.length (c 0)]) (DmE 1 S) (fun c => impl_DM0 S hs (c 0)) (fun _ _ h => h.fr) (fun ν c h => ⟨h.1, trivial⟩) (fun _ => rfl) ?_
  rintro x τ (⟨hno, rfl, rfl⟩ | ⟨O, cap, cc, hO, rfl, rfl⟩)
  · rw [List.append_nil]; exact hn hno
  · exact hy O cap cc hO
def DmS (S : List Task) (dd i : Int) (L : List Int) : Prop := Srt (dl S) L ∧ ∀ x, x ∈ L ↔ (0 ≤ x ∧ x < (S.length : Int)) ∧ ((gT S x).D < dd ∨ (gT S x).D = dd ∧ x < i)
def DmR (N : Nat) (S : List Task) (x : AV) (τ : List AB) : Prop := ∃ (L : List Int) (cap cc : Nat), (¬ setOk S → L = []) ∧ (setOk S → IsDM S L) ∧ x = .sl N 0 L.length cap ∧ τ = [.rw ty_int (encInt.row L) cc]
theorem DmR.fr {N : Nat} {S : List Task} {x : AV} {τ : List AB} (h : DmR N S x τ) : τ.all plainRw = true ∧ freshA N x = true := by
  obtain ⟨L, cap, cc, _, _, rfl, rfl⟩ := h
  simp [plainRw, encInt.row_flat, freshA, fresh1A, freshC]
theorem DmS.len {S : List Task} {dd i : Int} {L : List Int} (h : DmS S dd i L) : L.length ≤ S.length := by
  have hn : L.Nodup := srt_nodup h.1
  exact nodup_len _ _ hn fun x hx => ((h.2 x).1 hx).1
theorem DmS.first {S : List Task} (hS : setOk S) : DmS S 1 0 [] := by
  refine ⟨List.Pairwise.nil, fun x => ?_⟩
  refine Iff.intro (fun h => by cases h) (fun h => ?_)
  have t := gT_ok hS h.1.1 h.1.2
  unfold Task.ok at t
  have := h.2
  omega
theorem DmS.add {S : List Task} {dd : Int} {i : Nat} {L : List Int} (h : DmS S dd i L) (hi : i < S.length) (hd : (gT S i).D = dd) : DmS S dd ((i + 1 : Nat) : Int) (L ++ [(i : Int)]) := by
  refine ⟨List.pairwise_append.2 ⟨h.1, List.pairwise_singleton .., fun x hx y hy => ?_⟩, fun x => ?_⟩
  · rw [List.mem_singleton] at hy
    subst hy
    have := ((h.2 x).1 hx).2
    unfold ltK dl
    rw [hd]
    omega
  · rw [List.mem_append, List.mem_singleton, h.2]
    constructor
    · rintro (⟨h1, h2⟩ | rfl)
      · exact ⟨h1, by omega⟩
      · exact ⟨by omega, .inr ⟨hd, by omega⟩⟩
    · rintro ⟨h1, h2⟩
      by_cases e : x = i
      · exact .inr e
      · exact .inl ⟨h1, by omega⟩
theorem DmS.skip {S : List Task} {dd : Int} {i : Nat} {L : List Int} (h : DmS S dd i L) (hd : (gT S i).D ≠ dd) : DmS S dd ((i + 1 : Nat) : Int) L := by
  refine ⟨h.1, fun x => ?_⟩
  rw [h.2]
  constructor
  · rintro ⟨h1, h2⟩; exact ⟨h1, by omega⟩
  · rintro ⟨h1, h2⟩
    refine ⟨h1, ?_⟩
    rcases h2 with h2 | ⟨h2, h3⟩
    · exact .inl h2
    · by_cases e : x = i
      · subst e; exact absurd h2 hd
      · exact .inr ⟨h2, by omega⟩
theorem DmS.next {S : List Task} {dd : Nat} {L : List Int} (h : DmS S dd S.length L) : DmS S ((dd + 1 : Nat) : Int) 0 L := by
  refine ⟨h.1, fun x => ?_⟩
  rw [h.2]
  constructor
  · rintro ⟨h1, h2⟩; exact ⟨h1, by omega⟩
  · rintro ⟨h1, h2⟩; exact ⟨h1, by omega⟩
theorem DmS.fin {S : List Task} {dd : Nat} {L : List Int} (hS : setOk S) (hd : 13 ≤ dd) (h : DmS S dd 0 L) : IsDM S L := by
  refine ⟨hS, h.1, fun x => ?_⟩
  rw [h.2]
  constructor
  · rintro ⟨h1, h2⟩; exact h1
  · intro h1
    have t := gT_ok hS h1.1 h1.2
    unfold Task.ok at t
    exact ⟨h1, by omega⟩
theorem spec_DM0 (S : List Task) (hs : S.length ≤ 1048576) (c : Nat) : CallWp Tryz.prog n_spec_DeadlineMonotonic [.sl 0 0 S.length c] [.ro (encTask.row S)] (fun x σ' => ∃ τ, σ' = [.ro (encTask.row S)] ++ τ ∧ DmR 1 S x τ) := by
  refine call_spec_DeadlineMonotonic (by simp) ?_
  simp only [c_spec_DeadlineMonotonic, not_true_eq_false, not_false_eq_true, decide_true, decide_false, Bool.not_true, Bool.not_false, false_implies, true_implies, and_true, true_and, Bool.false_eq_true, Bool.true_eq_false, implies_true, Bool.not_not, Classical.not_not, go_sem, Int.reduceToNat, List.take_nil, Nat.zero_mul, Nat.reduceEqDiff, Nat.reduceAdd, Nat.reduceLT, Nat.reduceLeDiff, Nat.reduceMul, ↓reduceIte, reduceCtorEq]
  refine spec_SetValid_ (L := S) (by omega) (Rd.own rfl) ?_
  simp only [not_true_eq_false, not_false_eq_true, decide_true, decide_false, Bool.not_true, Bool.not_false, false_implies, true_implies, and_true, true_and, Bool.false_eq_true, Bool.true_eq_false, implies_true, Bool.not_not, Classical.not_not, go_sem, Int.reduceToNat, List.take_nil, Nat.zero_mul, Nat.reduceEqDiff, Nat.reduceAdd, Nat.reduceLT, Nat.reduceLeDiff, Nat.reduceMul, ↓reduceIte, reduceCtorEq]
  refine ⟨fun hS => ?_, fun hS => ?_⟩
  · exact Fin.pick [0, 1] (.sl 1 0 0 0) [.ro (encTask.row S), .rw ty_int [] 0] ⟨_, rfl, [], 0, 0, fun _ => rfl, fun h => absurd h hS, rfl, rfl⟩
  have h5 := hS.1
  refine loop_intro (fun s : Nat × List Int × Nat => ⟨[(0, .sl 0 0 S.length c), (3, .sl 1 0 s.2.1.length s.2.2), (4, .i .i64 s.1)], [.ro (encTask.row S), .rw ty_int (encInt.row s.2.1) s.2.2]⟩)
    (fun s => s.1 ≤ 13 ∧ DmS S s.1 0 s.2.1) (fun s => 13 - s.1) (1, [], 0) ⟨by decide, DmS.first hS⟩ (Wk.pick [0, 1]) ?_
  rintro ⟨dd, L, cap⟩ ⟨j1, j2⟩
  simp only at j1 j2
  simp only [l1_spec_DeadlineMonotonic, not_true_eq_false, not_false_eq_true, decide_true, decide_false, Bool.not_true, Bool.not_false, false_implies, true_implies, and_true, true_and, Bool.false_eq_true, Bool.true_eq_false, implies_true, Bool.not_not, Classical.not_not, go_sem, Int.reduceToNat, List.take_nil, Nat.zero_mul, Nat.reduceEqDiff, Nat.reduceAdd, Nat.reduceLT, Nat.reduceLeDiff, Nat.reduceMul, ↓reduceIte, reduceCtorEq]
  refine ⟨fun hle => ?_, fun hgt => ?_⟩
  · refine loop_intro (fun s : Nat × List Int × Nat => ⟨[(0, .sl 0 0 S.length c), (3, .sl 1 0 s.2.1.length s.2.2), (4, .i .i64 dd), (5, .i .i64 s.1)], [.ro (encTask.row S), .rw ty_int (encInt.row s.2.1) s.2.2]⟩)
      (fun s => s.1 ≤ S.length ∧ DmS S dd s.1 s.2.1) (fun s => S.length - s.1) (0, L, cap) ⟨Nat.zero_le _, j2⟩ (Wk.pick [0, 1]) ?_
    rintro ⟨i, M, cm⟩ ⟨i1, i2⟩
    simp only at i1 i2
    have hM := i2.len
    simp only [l0_spec_DeadlineMonotonic, not_true_eq_false, not_false_eq_true, decide_true, decide_false, Bool.not_true, Bool.not_false, false_implies, true_implies, and_true, true_and, Bool.false_eq_true, Bool.true_eq_false, implies_true, Bool.not_not, Classical.not_not, go_sem, Int.reduceToNat, List.take_nil, Nat.zero_mul, Nat.reduceEqDiff, Nat.reduceAdd, Nat.reduceLT, Nat.reduceLeDiff, Nat.reduceMul, ↓reduceIte, reduceCtorEq]
    refine ⟨fun hlt => ?_, fun hge => ?_⟩
    · have hDi : (gT S i).D = S[i].D := by rw [gT_nat hlt]
      simp only [rdT1 hlt, lenT, lenI, takeI, not_true_eq_false, not_false_eq_true, decide_true, decide_false, Bool.not_true, Bool.not_false, false_implies, true_implies, and_true, true_and, Bool.false_eq_true, Bool.true_eq_false, implies_true, Bool.not_not, Classical.not_not, go_sem, Int.reduceToNat, List.take_nil, Nat.zero_mul, Nat.reduceEqDiff, Nat.reduceAdd, Nat.reduceLT, Nat.reduceLeDiff, Nat.reduceMul, ↓reduceIte, reduceCtorEq]
      refine ⟨hlt, by omega, fun hd => ⟨⟨by omega, by omega, by omega⟩, fun cap' hc => ?_⟩, fun hd => ?_⟩
      · refine ⟨by omega, (i + 1, M ++ [(i : Int)], cap'), ⟨⟨by simp only; omega, i2.add hlt (hDi.trans hd)⟩, by simp only; omega⟩, ?_⟩
        simp only [List.length_append, List.length_cons, List.length_nil, ← appI]
        exact Wk.pick [0, 3]
      · exact ⟨by omega, (i + 1, M, cm), ⟨⟨by simp only; omega, i2.skip fun e => hd (hDi.symm.trans e)⟩, by simp only; omega⟩, Wk.pick [0, 1]⟩
    · obtain rfl : i = S.length := by omega
      exact ⟨by omega, (dd + 1, M, cm), ⟨⟨by simp only; omega, i2.next⟩, by simp only; omega⟩, Wk.pick [0, 1]⟩
  · exact Fin.pick [0, 1] (.sl 1 0 L.length cap) [.ro (encTask.row S), .rw ty_int (encInt.row L) cap] ⟨_, rfl, L, cap, cap, fun h => absurd hS h, fun _ => j2.fin hS (by omega), rfl, rfl⟩
theorem spec_DM_ {S : List Task} (hs : S.length ≤ 1048576) {v : AV} {σ : List AB} (h : Rd encTask σ v S) {K : AV → List AB → Prop} (hy : ∀ L cap cc, (¬ setOk S → L = []) → (setOk S → IsDM S L) → K (.sl σ.length 0 L.length cap) (σ ++ [.rw ty_int (encInt.row L) cc])) : CallWp Tryz.prog n_spec_DeadlineMonotonic [v] σ K := by
  refine call_news _ (rds1 h.r) (fun c => [.sl 0 0 S.length (c 0)]) (DmR 1 S) (fun c => spec_DM0 S hs (c 0)) (fun _ _ h => h.fr) (fun ν c h => ⟨h.1, trivial⟩) (fun _ => rfl) ?_
  rintro x τ ⟨L, cap, cc, h1, h2, rfl, rfl⟩
  exact hy L cap cc h1 h2
end Go.Proofs.YtfngcejaphhmmaaGreatDoor
