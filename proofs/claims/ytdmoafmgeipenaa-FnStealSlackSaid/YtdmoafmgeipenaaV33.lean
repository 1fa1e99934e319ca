import Derived.Test.YtdmoafmgeipenaaS53
import Derived.Test.YtdmoafmgeipenaaD8
import Derived.Test.YtdmoafmgeipenaaV1
import Derived.Test.YtdmoafmgeipenaaE7
namespace Go.Proofs.Ytdmoafmgeipenaa
open Go.Abs Go.Ds
set_option linter.unusedSimpArgs false
set_option linter.unusedVariables false
set_option maxRecDepth 20000
set_option maxHeartbeats 4000000
theorem pm_zero {L : List Job} (f : Int) (h : missedL L (edfFin L) = []) : pm L f 0 = [] := by
  unfold pm pauseFin
  rw [simU_same (p := pausePick f 0 L) (q := edfPick L) 120 fun t done _ => by unfold pausePick; rw [if_neg (by omega)]]
  exact h
theorem pm_fits {L : List Job} {f : Int} {m : Nat} {T : List Int} (hT : ∀ x : Int, x ∈ T ↔ f ≤ x ∧ x < f + m) (h : fitsT L T) : pm L f m = [] := by
  unfold pm pauseFin
  rw [simU_same (p := pausePick f m L) (q := takenPick T L) 120 fun t done _ => by
    unfold pausePick takenPick
    by_cases hx : f ≤ (t : Int) ∧ (t : Int) < f + m
    · rw [if_pos hx, if_pos ((hT t).2 hx)]
    · rw [if_neg hx, if_neg fun g => hx ((hT t).1 g)]]
  exact h
theorem slack_none {L : List Job} {t s : Int} (h0 : missedL L (edfFin L) = []) (hf : ¬ fitsT L [t]) (hs : SlackV L t s) : s = 0 := by
  obtain ⟨hb, h1, h2⟩ := hs
  have z := pm_zero t h0
  have n1 : pm L t 1 ≠ [] := fun e => hf (by
    have e2 := pm_fits (L := L) (f := t) (m := 1) (T := [t]) (fun x => by simp; omega)
    unfold fitsT
    unfold pm pauseFin at e
    rw [simU_same (p := pausePick t 1 L) (q := takenPick [t] L) 120 fun u done _ => by
      unfold pausePick takenPick
      by_cases hx : t ≤ (u : Int) ∧ (u : Int) < t + 1
      · rw [if_pos hx, if_pos (by simp; omega)]
      · rw [if_neg hx, if_neg (by simp; omega)]] at e
    exact e)
  apply Classical.byContradiction
  intro hne
  by_cases hp : 1 ≤ s
  · exact n1 (h1 1 (by omega) hp)
  · have e : s = -1 := by omega
    subst e
    exact h2 (by omega) z
theorem slack_run {L : List Job} {t e s : Int} {n : Nat} (h0 : missedL L (edfFin L) = []) (hn : 1 ≤ n) (hl : n ≤ (stealL L t e).length) (hn120 : n ≤ 120) (hc : ∀ i (h : i < n), (stealL L t e)[i]'(by omega) = (stealL L t e)[0]'(by omega) + i) (hs : SlackV L ((stealL L t e)[0]'(by omega)) s) : (n : Int) ≤ s := by
  obtain ⟨hb, h1, h2⟩ := hs
  have all : ∀ m : Nat, m ≤ n → pm L ((stealL L t e)[0]'(by omega)) m = [] := fun m hm => by
    by_cases h0m : m = 0
    · subst h0m; exact pm_zero _ h0
    · refine pm_fits (T := (stealL L t e).take m) (fun x => ?_) (steal_fits _ m (by omega) (show m ≤ (stealL L t e).length by omega))
      rw [List.mem_take_iff_getElem]
      constructor
      · rintro ⟨i, hi, rfl⟩
        have := hc i (by omega)
        omega
      · rintro ⟨g1, g2⟩
        refine ⟨(x - (stealL L t e)[0]'(by omega)).toNat, by omega, ?_⟩
        have := hc (x - (stealL L t e)[0]'(by omega)).toNat (by omega)
        omega
  apply Classical.byContradiction
  intro hlt
  have := all (s + 1).toNat (by omega)
  rw [show (((s + 1).toNat : Nat) : Int) = s + 1 by omega] at this
  exact h2 (by omega) this
theorem slack_ex (L : List Job) (f : Int) : ∃ s, SlackV L f s := by
  have key : ∀ n : Nat, (∀ k : Nat, k < n → pm L f k = []) ∨ ∃ k : Nat, k < n ∧ pm L f k ≠ [] ∧ ∀ j : Nat, j < k → pm L f j = [] := fun n => by
    induction n with
    | zero => exact .inl fun k hk => absurd hk (by omega)
    | succ n ih =>
      rcases ih with h | ⟨k, hk, h1, h2⟩
      · by_cases hn : pm L f n = []
        · refine .inl fun k hk => ?_
          by_cases e : k = n
          · subst e; exact hn
          · exact h k (by omega)
        · exact .inr ⟨n, by omega, hn, h⟩
      · exact .inr ⟨k, by omega, h1, h2⟩
  rcases key 121 with h | ⟨k, hk, h1, h2⟩
  · refine ⟨120, by omega, fun j hj0 hj => ?_, fun h => absurd h (by omega)⟩
    have := h j.toNat (by omega)
    rwa [show ((j.toNat : Nat) : Int) = j by omega] at this
  · refine ⟨(k : Int) - 1, by omega, fun j hj0 hj => ?_, fun _ => ?_⟩
    · have := h2 j.toNat (by omega)
      rwa [show ((j.toNat : Nat) : Int) = j by omega] at this
    · rw [show (k : Int) - 1 + 1 = k by omega]; exact h1
theorem laws_FnStealSlack0 (C : List Nat) (hC : ∀ x ∈ C, x < 256) (c : Nat) (hc : C.length ≤ c) : CallWp Try.prog n_laws_FnStealSlack [.sl 0 0 C.length c] [.ro (encByte.row C)] (fun x _ => x = .b true) := by
  refine call_laws_FnStealSlack (by simp) ?_
  simp only [c_laws_FnStealSlack, go_sem, Int.reduceToNat, List.take_nil, Nat.zero_mul, Nat.reduceEqDiff, Nat.reduceAdd, Nat.reduceLT, Nat.reduceLeDiff, Nat.reduceMul, ↓reduceIte, reduceCtorEq]
  refine ⟨fun h => Fin.plain rfl, fun h => ?_⟩
  refine (spec_DrawStealSlack0 C hC c hc).mono ?_
  rintro x σ' _ ⟨S, L, cap, cap', q, rfl, rfl, hS8, hL62, hqt, hqe⟩
  simp only [not_true_eq_false, not_false_eq_true, decide_true, decide_false, Bool.not_true, Bool.not_false, false_implies, true_implies, and_true, true_and, Bool.false_eq_true, Bool.true_eq_false, implies_true, Bool.not_not, Classical.not_not, go_sem, Int.reduceToNat, List.take_nil, Nat.zero_mul, Nat.reduceEqDiff, Nat.reduceAdd, Nat.reduceLT, Nat.reduceLeDiff, Nat.reduceMul, ↓reduceIte, reduceCtorEq]
  have hEF := edfFin_length L
  by_cases hok : stealOk S L q
  · have hV : stealV S L q = stealL L q.t q.e := if_pos hok
    obtain ⟨h1, h2, h3⟩ := hok
    obtain ⟨ha1, ha2⟩ := arr_one.1 h2
    refine impl_StealSlack_ (S := S) (L := L) (q := q) (by omega) (by omega) (Rd.own rfl) (Rd.own rfl) (fun hn => ?_) (fun hy cI => ?_)
    · simp only [not_true_eq_false, not_false_eq_true, decide_true, decide_false, Bool.not_true, Bool.not_false, false_implies, true_implies, and_true, true_and, Bool.false_eq_true, Bool.true_eq_false, implies_true, Bool.not_not, Classical.not_not, go_sem, Int.reduceToNat, List.take_nil, Nat.zero_mul, Nat.reduceEqDiff, Nat.reduceAdd, Nat.reduceLT, Nat.reduceLeDiff, Nat.reduceMul, ↓reduceIte, reduceCtorEq]
      refine spec_StealSlack_ (S := S) (L := L) (q := q) (by omega) (by omega) (Rd.own rfl) (Rd.own rfl) fun cS => ?_
      simp only [not_true_eq_false, not_false_eq_true, decide_true, decide_false, Bool.not_true, Bool.not_false, false_implies, true_implies, and_true, true_and, Bool.false_eq_true, Bool.true_eq_false, implies_true, Bool.not_not, Classical.not_not, go_sem, Int.reduceToNat, List.take_nil, Nat.zero_mul, Nat.reduceEqDiff, Nat.reduceAdd, Nat.reduceLT, Nat.reduceLeDiff, Nat.reduceMul, ↓reduceIte, reduceCtorEq]
      refine laws_sameInts_ (L := []) (M := stealV S L q) (by simp) (Rd.none (by simp)) (Rd.own rfl) ?_
      rw [hn]
      simp only [not_true_eq_false, not_false_eq_true, decide_true, decide_false, Bool.not_true, Bool.not_false, false_implies, true_implies, and_true, true_and, Bool.false_eq_true, Bool.true_eq_false, implies_true, Bool.not_not, Classical.not_not, go_sem, Int.reduceToNat, List.take_nil, Nat.zero_mul, Nat.reduceEqDiff, Nat.reduceAdd, Nat.reduceLT, Nat.reduceLeDiff, Nat.reduceMul, ↓reduceIte, reduceCtorEq]
      refine spec_JobsLegal_ (S := S) (L := L) (by omega) (by omega) (Rd.own rfl) (Rd.own rfl) ?_
      simp only [h1, not_true_eq_false, not_false_eq_true, decide_true, decide_false, Bool.not_true, Bool.not_false, false_implies, true_implies, and_true, true_and, Bool.false_eq_true, Bool.true_eq_false, implies_true, Bool.not_not, Classical.not_not, go_sem, Int.reduceToNat, List.take_nil, Nat.zero_mul, Nat.reduceEqDiff, Nat.reduceAdd, Nat.reduceLT, Nat.reduceLeDiff, Nat.reduceMul, ↓reduceIte, reduceCtorEq]
      refine spec_ArrivalsLegal_ (L := [q]) (by simp) (Rd.own' rfl rfl) ?_
      simp only [h2, not_true_eq_false, not_false_eq_true, decide_true, decide_false, Bool.not_true, Bool.not_false, false_implies, true_implies, and_true, true_and, Bool.false_eq_true, Bool.true_eq_false, implies_true, Bool.not_not, Classical.not_not, go_sem, Int.reduceToNat, List.take_nil, Nat.zero_mul, Nat.reduceEqDiff, Nat.reduceAdd, Nat.reduceLT, Nat.reduceLeDiff, Nat.reduceMul, ↓reduceIte, reduceCtorEq]
      refine impl_RunEdf_ (S := S) (L := L) (by omega) (by omega) (Rd.own rfl) (Rd.own rfl) (fun hno => absurd h1 hno) (fun _ c1 c2 => ?_)
      simp only [not_true_eq_false, not_false_eq_true, decide_true, decide_false, Bool.not_true, Bool.not_false, false_implies, true_implies, and_true, true_and, Bool.false_eq_true, Bool.true_eq_false, implies_true, Bool.not_not, Classical.not_not, go_sem, Int.reduceToNat, List.take_nil, Nat.zero_mul, Nat.reduceEqDiff, Nat.reduceAdd, Nat.reduceLT, Nat.reduceLeDiff, Nat.reduceMul, ↓reduceIte, reduceCtorEq]
      refine impl_Missed_ (L := L) (fin := edfFin L) (by omega) hEF (Rd.own rfl) (Rd.own' rfl hEF) (fun _ => ?_) (fun ne => absurd h3 ne)
      simp only [not_true_eq_false, not_false_eq_true, decide_true, decide_false, Bool.not_true, Bool.not_false, false_implies, true_implies, and_true, true_and, Bool.false_eq_true, Bool.true_eq_false, implies_true, Bool.not_not, Classical.not_not, go_sem, Int.reduceToNat, List.take_nil, Nat.zero_mul, Nat.reduceEqDiff, Nat.reduceAdd, Nat.reduceLT, Nat.reduceLeDiff, Nat.reduceMul, ↓reduceIte, reduceCtorEq]
      refine ⟨fun hh => absurd hh (by decide), fun _ => ⟨fun hh => absurd hh (by omega), fun _ => ?_⟩⟩
      refine loop_count 0 (fun k => ⟨[(3, .sl 1 0 S.length cap), (4, .sl 2 0 L.length cap'), (5, .p 3 0), (6, .sn), (7, .i .i64 k)], [.ro (encByte.row C), .rw ty_impl_Task (encTask.row S) (cap * 3), .rw ty_impl_Job (encJob.row L) (cap' * 4), .rw ty_impl_Arrival [.i .i64 q.t, .i .i64 q.e] 2]⟩) (fun _ => True) trivial (Wk.pick [0, 1, 2, 3]) fun k hk _ => ?_
      obtain rfl : k = 0 := by omega
      simp only [l1_laws_FnStealSlack, not_true_eq_false, not_false_eq_true, decide_true, decide_false, Bool.not_true, Bool.not_false, false_implies, true_implies, and_true, true_and, Bool.false_eq_true, Bool.true_eq_false, implies_true, Bool.not_not, Classical.not_not, go_sem, Int.reduceToNat, List.take_nil, Nat.zero_mul, Nat.reduceEqDiff, Nat.reduceAdd, Nat.reduceLT, Nat.reduceLeDiff, Nat.reduceMul, ↓reduceIte, reduceCtorEq]
      refine ⟨fun hh => by omega, fun _ => ?_⟩
      refine impl_Slack_ (S := S) (L := L) (f := q.t) (by omega) (by omega) (Rd.own rfl) (Rd.own rfl) (fun hno => absurd ⟨h1, by omega, by omega⟩ hno) (fun _ s hs => ?_)
      have hs0 := slack_none h3 (fun hf => by
        obtain ⟨o, ho⟩ := steal_first (e := q.e) ha2.1 hf ((120 - q.t).toNat - 1)
        rw [show (120 - q.t).toNat - 1 + 1 = (120 - q.t).toNat by omega] at ho
        rw [hV] at hn
        unfold stealL at hn
        rw [ho] at hn
        cases hn) hs
      subst hs0
      simp only [not_true_eq_false, not_false_eq_true, decide_true, decide_false, Bool.not_true, Bool.not_false, false_implies, true_implies, and_true, true_and, Bool.false_eq_true, Bool.true_eq_false, implies_true, Bool.not_not, Classical.not_not, go_sem, Int.reduceToNat, List.take_nil, Nat.zero_mul, Nat.reduceEqDiff, Nat.reduceAdd, Nat.reduceLT, Nat.reduceLeDiff, Nat.reduceMul, ↓reduceIte, reduceCtorEq]
      exact Fin.plain rfl
    · rw [hV] at hy ⊢
      simp only [not_true_eq_false, not_false_eq_true, decide_true, decide_false, Bool.not_true, Bool.not_false, false_implies, true_implies, and_true, true_and, Bool.false_eq_true, Bool.true_eq_false, implies_true, Bool.not_not, Classical.not_not, go_sem, Int.reduceToNat, List.take_nil, Nat.zero_mul, Nat.reduceEqDiff, Nat.reduceAdd, Nat.reduceLT, Nat.reduceLeDiff, Nat.reduceMul, ↓reduceIte, reduceCtorEq]
      refine spec_StealSlack_ (S := S) (L := L) (q := q) (by omega) (by omega) (Rd.own rfl) (Rd.own rfl) fun cS => ?_
      rw [hV]
      simp only [not_true_eq_false, not_false_eq_true, decide_true, decide_false, Bool.not_true, Bool.not_false, false_implies, true_implies, and_true, true_and, Bool.false_eq_true, Bool.true_eq_false, implies_true, Bool.not_not, Classical.not_not, go_sem, Int.reduceToNat, List.take_nil, Nat.zero_mul, Nat.reduceEqDiff, Nat.reduceAdd, Nat.reduceLT, Nat.reduceLeDiff, Nat.reduceMul, ↓reduceIte, reduceCtorEq]
      refine laws_sameInts_ (L := stealL L q.t q.e) (M := stealL L q.t q.e) (by have := (steal_len (L := L) (t := q.t) (e := q.e) (by omega) (120 - q.t).toNat).2; unfold stealL; omega) (Rd.own rfl) (Rd.own rfl) ?_
      simp only [not_true_eq_false, not_false_eq_true, decide_true, decide_false, Bool.not_true, Bool.not_false, false_implies, true_implies, and_true, true_and, Bool.false_eq_true, Bool.true_eq_false, implies_true, Bool.not_not, Classical.not_not, go_sem, Int.reduceToNat, List.take_nil, Nat.zero_mul, Nat.reduceEqDiff, Nat.reduceAdd, Nat.reduceLT, Nat.reduceLeDiff, Nat.reduceMul, ↓reduceIte, reduceCtorEq]
      refine spec_JobsLegal_ (S := S) (L := L) (by omega) (by omega) (Rd.own rfl) (Rd.own rfl) ?_
      simp only [h1, not_true_eq_false, not_false_eq_true, decide_true, decide_false, Bool.not_true, Bool.not_false, false_implies, true_implies, and_true, true_and, Bool.false_eq_true, Bool.true_eq_false, implies_true, Bool.not_not, Classical.not_not, go_sem, Int.reduceToNat, List.take_nil, Nat.zero_mul, Nat.reduceEqDiff, Nat.reduceAdd, Nat.reduceLT, Nat.reduceLeDiff, Nat.reduceMul, ↓reduceIte, reduceCtorEq]
      refine spec_ArrivalsLegal_ (L := [q]) (by simp) (Rd.own' rfl rfl) ?_
      simp only [h2, not_true_eq_false, not_false_eq_true, decide_true, decide_false, Bool.not_true, Bool.not_false, false_implies, true_implies, and_true, true_and, Bool.false_eq_true, Bool.true_eq_false, implies_true, Bool.not_not, Classical.not_not, go_sem, Int.reduceToNat, List.take_nil, Nat.zero_mul, Nat.reduceEqDiff, Nat.reduceAdd, Nat.reduceLT, Nat.reduceLeDiff, Nat.reduceMul, ↓reduceIte, reduceCtorEq]
      refine impl_RunEdf_ (S := S) (L := L) (by omega) (by omega) (Rd.own rfl) (Rd.own rfl) (fun hno => absurd h1 hno) (fun _ c1 c2 => ?_)
      simp only [not_true_eq_false, not_false_eq_true, decide_true, decide_false, Bool.not_true, Bool.not_false, false_implies, true_implies, and_true, true_and, Bool.false_eq_true, Bool.true_eq_false, implies_true, Bool.not_not, Classical.not_not, go_sem, Int.reduceToNat, List.take_nil, Nat.zero_mul, Nat.reduceEqDiff, Nat.reduceAdd, Nat.reduceLT, Nat.reduceLeDiff, Nat.reduceMul, ↓reduceIte, reduceCtorEq]
      refine impl_Missed_ (L := L) (fin := edfFin L) (by omega) hEF (Rd.own rfl) (Rd.own' rfl hEF) (fun _ => ?_) (fun ne => absurd h3 ne)
      simp only [not_true_eq_false, not_false_eq_true, decide_true, decide_false, Bool.not_true, Bool.not_false, false_implies, true_implies, and_true, true_and, Bool.false_eq_true, Bool.true_eq_false, implies_true, Bool.not_not, Classical.not_not, go_sem, Int.reduceToNat, List.take_nil, Nat.zero_mul, Nat.reduceEqDiff, Nat.reduceAdd, Nat.reduceLT, Nat.reduceLeDiff, Nat.reduceMul, ↓reduceIte, reduceCtorEq]
      have hlen : ((stealL L q.t q.e).length : Int) ≤ q.e ∧ (stealL L q.t q.e).length ≤ (120 - q.t).toNat := steal_len (L := L) (t := q.t) (e := q.e) (by omega) (120 - q.t).toNat
      have hrows : (∀ i (h : i < (stealL L q.t q.e).length), q.t ≤ (stealL L q.t q.e)[i] ∧ (stealL L q.t q.e)[i] < q.t + (120 - q.t).toNat) ∧ ∀ i (h : i < (stealL L q.t q.e).length) (h0 : 0 < i), (stealL L q.t q.e)[i - 1]'(by omega) < (stealL L q.t q.e)[i] := steal_rows (L := L) (t := q.t) (e := q.e) (120 - q.t).toNat
      have hN := List.length_pos_iff.2 hy
      refine ⟨fun hh => absurd hh (by decide), fun _ => ⟨fun hh => absurd hh (by omega), fun _ => ?_⟩⟩
      refine loop_count (stealL L q.t q.e).length (fun k => ⟨[(3, .sl 1 0 S.length cap), (4, .sl 2 0 L.length cap'), (5, .p 3 0), (6, .sl 4 0 (stealL L q.t q.e).length (stealL L q.t q.e).length), (7, .i .i64 k)], [.ro (encByte.row C), .rw ty_impl_Task (encTask.row S) (cap * 3), .rw ty_impl_Job (encJob.row L) (cap' * 4), .rw ty_impl_Arrival [.i .i64 q.t, .i .i64 q.e] 2, .rw ty_int (encInt.row (stealL L q.t q.e)) cI]⟩) (fun _ => True) trivial (Wk.pick [0, 1, 2, 3, 4]) fun k hk _ => ?_
      simp only [l1_laws_FnStealSlack, not_true_eq_false, not_false_eq_true, decide_true, decide_false, Bool.not_true, Bool.not_false, false_implies, true_implies, and_true, true_and, Bool.false_eq_true, Bool.true_eq_false, implies_true, Bool.not_not, Classical.not_not, go_sem, Int.reduceToNat, List.take_nil, Nat.zero_mul, Nat.reduceEqDiff, Nat.reduceAdd, Nat.reduceLT, Nat.reduceLeDiff, Nat.reduceMul, ↓reduceIte, reduceCtorEq]
      refine ⟨fun hl => ?_, fun hl => ?_⟩
      · have hr := hrows.1 k hl
        have hr2 := hrows.2 k hl
        rcases Nat.eq_zero_or_pos k with rfl | hk0
        · simp only [rdI hl, lenI, not_true_eq_false, not_false_eq_true, decide_true, decide_false, Bool.not_true, Bool.not_false, false_implies, true_implies, and_true, true_and, Bool.false_eq_true, Bool.true_eq_false, implies_true, Bool.not_not, Classical.not_not, go_sem, Int.reduceToNat, List.take_nil, Nat.zero_mul, Nat.reduceEqDiff, Nat.reduceAdd, Nat.reduceLT, Nat.reduceLeDiff, Nat.reduceMul, ↓reduceIte, reduceCtorEq]
          repeat' first | omega | (exfalso; omega) | exact Wk.pick [0, 1, 2, 3, 4] | refine ⟨?_, ?_⟩ | intro _
        · have hm : (k : Int) - 1 = ((k - 1 : Nat) : Int) := by omega
          have hk1 : k - 1 < (stealL L q.t q.e).length := by omega
          have hr3 := hr2 hk0
          simp only [rdI hl, hm, Int.toNat_natCast, rdI hk1, lenI, not_true_eq_false, not_false_eq_true, decide_true, decide_false, Bool.not_true, Bool.not_false, false_implies, true_implies, and_true, true_and, Bool.false_eq_true, Bool.true_eq_false, implies_true, Bool.not_not, Classical.not_not, go_sem, Int.reduceToNat, List.take_nil, Nat.zero_mul, Nat.reduceEqDiff, Nat.reduceAdd, Nat.reduceLT, Nat.reduceLeDiff, Nat.reduceMul, ↓reduceIte, reduceCtorEq]
          repeat' first | omega | (exfalso; omega) | exact Wk.pick [0, 1, 2, 3, 4] | refine ⟨?_, ?_⟩ | intro _
      · refine ⟨fun hh => absurd hh (by omega), fun _ => ?_⟩
        have g0 : gI (stealL L q.t q.e) ((0 : Nat) : Int) = (stealL L q.t q.e)[0] := gI_row hN
        refine loop_intro (fun n : Nat => ⟨[(3, .sl 1 0 S.length cap), (4, .sl 2 0 L.length cap'), (5, .p 3 0), (6, .sl 4 0 (stealL L q.t q.e).length (stealL L q.t q.e).length), (8, .i .i64 n)], [.ro (encByte.row C), .rw ty_impl_Task (encTask.row S) (cap * 3), .rw ty_impl_Job (encJob.row L) (cap' * 4), .rw ty_impl_Arrival [.i .i64 q.t, .i .i64 q.e] 2, .rw ty_int (encInt.row (stealL L q.t q.e)) cI]⟩)
          (fun n => (1 ≤ n ∧ n ≤ (stealL L q.t q.e).length) ∧ ∀ i : Nat, i < n → gI (stealL L q.t q.e) (i : Int) = (stealL L q.t q.e)[0] + i) (fun n => (stealL L q.t q.e).length - n) 1 ⟨⟨by omega, by omega⟩, fun i hi => by
            obtain rfl : i = 0 := by omega
            rw [g0]; omega⟩ (Wk.pick [0, 1, 2, 3, 4]) ?_
        rintro n ⟨⟨hn1, hn2⟩, hrun⟩
        obtain ⟨s1, hs1⟩ := slack_ex L ((stealL L q.t q.e)[0])
        obtain ⟨s2, hs2⟩ := slack_ex L q.t
        have hle : (n : Int) ≤ s1 := slack_run h3 hn1 hn2 (by omega) (fun i hi => by
          have := hrun i hi
          rwa [gI_row (show i < (stealL L q.t q.e).length by omega)] at this) hs1
        have hz : (stealL L q.t q.e)[0] ≠ q.t → s2 = 0 := fun hne => slack_none h3 (fun hf => by
          obtain ⟨o, ho⟩ := steal_first (e := q.e) ha2.1 hf ((120 - q.t).toNat - 1)
          rw [show (120 - q.t).toNat - 1 + 1 = (120 - q.t).toNat by omega] at ho
          have ho2 : stealL L q.t q.e = q.t :: o := ho
          apply hne
          simp only [ho2, List.getElem_cons_zero]) hs2
        have c1 : ∀ {σ : List AB} {v u : AV}, Rd encTask σ v S → Rd encJob σ u L → CallWp Try.prog n_impl_Slack [v, u, .i .i64 ((stealL L q.t q.e)[0])] σ (fun x σ' => x = .i .i64 s1 ∧ σ' = σ) := fun g1 g2 =>
          impl_Slack_ (S := S) (L := L) (by omega) (by omega) g1 g2 (fun hno => absurd ⟨h1, by have := hrows.1 0 hN; omega, by have := hrows.1 0 hN; omega⟩ hno) (fun _ s hs => ⟨by rw [hs.same hs1], rfl⟩)
        have c2 : ∀ {σ : List AB} {v u : AV}, Rd encTask σ v S → Rd encJob σ u L → CallWp Try.prog n_impl_Slack [v, u, .i .i64 q.t] σ (fun x σ' => x = .i .i64 s2 ∧ σ' = σ) := fun g1 g2 =>
          impl_Slack_ (S := S) (L := L) (by omega) (by omega) g1 g2 (fun hno => absurd ⟨h1, by omega, by omega⟩ hno) (fun _ s hs => ⟨by rw [hs.same hs2], rfl⟩)
        have hr0 := hrows.1 0 hN
        simp only [l0_laws_FnStealSlack, rdI hN, lenI, not_true_eq_false, not_false_eq_true, decide_true, decide_false, Bool.not_true, Bool.not_false, false_implies, true_implies, and_true, true_and, Bool.false_eq_true, Bool.true_eq_false, implies_true, Bool.not_not, Classical.not_not, go_sem, Int.reduceToNat, List.take_nil, Nat.zero_mul, Nat.reduceEqDiff, Nat.reduceAdd, Nat.reduceLT, Nat.reduceLeDiff, Nat.reduceMul, ↓reduceIte, reduceCtorEq]
        refine ⟨fun hlt => ?_, fun hge => ?_⟩
        · simp only [rdI hlt, not_true_eq_false, not_false_eq_true, decide_true, decide_false, Bool.not_true, Bool.not_false, false_implies, true_implies, and_true, true_and, Bool.false_eq_true, Bool.true_eq_false, implies_true, Bool.not_not, Classical.not_not, go_sem, Int.reduceToNat, List.take_nil, Nat.zero_mul, Nat.reduceEqDiff, Nat.reduceAdd, Nat.reduceLT, Nat.reduceLeDiff, Nat.reduceMul, ↓reduceIte, reduceCtorEq]
          refine ⟨hlt, hlt, by omega, by omega, by omega, fun e => ⟨by omega, n + 1, ⟨⟨by omega, fun i hi => ?_⟩, by omega⟩, ?_⟩, fun ne => ?_⟩
          · by_cases hin : i = n
            · subst hin; rw [gI_row hlt]; exact e
            · exact hrun i (by omega)
          · simp only [show ((n + 1 : Nat) : Int) = (n : Int) + 1 from by omega]
            exact Wk.pick [0, 1, 2, 3, 4]
          · refine ⟨by omega, hN, onCall.by (c1 (Rd.own rfl) (Rd.own rfl)) ?_⟩
            simp only [rdI hN, lenI, not_true_eq_false, not_false_eq_true, decide_true, decide_false, Bool.not_true, Bool.not_false, false_implies, true_implies, and_true, true_and, Bool.false_eq_true, Bool.true_eq_false, implies_true, Bool.not_not, Classical.not_not, go_sem, Int.reduceToNat, List.take_nil, Nat.zero_mul, Nat.reduceEqDiff, Nat.reduceAdd, Nat.reduceLT, Nat.reduceLeDiff, Nat.reduceMul, ↓reduceIte, reduceCtorEq]
            refine ⟨fun _ => ⟨by omega, hN, fun hne => onCall.by (c2 (Rd.own rfl) (Rd.own rfl)) ?_, fun _ => Fin.plain rfl⟩, fun hh => absurd hle hh⟩
            rw [hz hne]
            simp only [not_true_eq_false, not_false_eq_true, decide_true, decide_false, Bool.not_true, Bool.not_false, false_implies, true_implies, and_true, true_and, Bool.false_eq_true, Bool.true_eq_false, implies_true, Bool.not_not, Classical.not_not, go_sem, Int.reduceToNat, List.take_nil, Nat.zero_mul, Nat.reduceEqDiff, Nat.reduceAdd, Nat.reduceLT, Nat.reduceLeDiff, Nat.reduceMul, ↓reduceIte, reduceCtorEq]
            exact Fin.plain rfl
        · refine ⟨by omega, hN, onCall.by (c1 (Rd.own rfl) (Rd.own rfl)) ?_⟩
          simp only [rdI hN, lenI, not_true_eq_false, not_false_eq_true, decide_true, decide_false, Bool.not_true, Bool.not_false, false_implies, true_implies, and_true, true_and, Bool.false_eq_true, Bool.true_eq_false, implies_true, Bool.not_not, Classical.not_not, go_sem, Int.reduceToNat, List.take_nil, Nat.zero_mul, Nat.reduceEqDiff, Nat.reduceAdd, Nat.reduceLT, Nat.reduceLeDiff, Nat.reduceMul, ↓reduceIte, reduceCtorEq]
          refine ⟨fun _ => ⟨by omega, hN, fun hne => onCall.by (c2 (Rd.own rfl) (Rd.own rfl)) ?_, fun _ => Fin.plain rfl⟩, fun hh => absurd hle hh⟩
          rw [hz hne]
          simp only [not_true_eq_false, not_false_eq_true, decide_true, decide_false, Bool.not_true, Bool.not_false, false_implies, true_implies, and_true, true_and, Bool.false_eq_true, Bool.true_eq_false, implies_true, Bool.not_not, Classical.not_not, go_sem, Int.reduceToNat, List.take_nil, Nat.zero_mul, Nat.reduceEqDiff, Nat.reduceAdd, Nat.reduceLT, Nat.reduceLeDiff, Nat.reduceMul, ↓reduceIte, reduceCtorEq]
          exact Fin.plain rfl
  · have hV : stealV S L q = [] := if_neg hok
    refine impl_StealSlack_ (S := S) (L := L) (q := q) (by omega) (by omega) (Rd.own rfl) (Rd.own rfl) (fun _ => ?_) (fun hy => absurd hV hy)
    simp only [not_true_eq_false, not_false_eq_true, decide_true, decide_false, Bool.not_true, Bool.not_false, false_implies, true_implies, and_true, true_and, Bool.false_eq_true, Bool.true_eq_false, implies_true, Bool.not_not, Classical.not_not, go_sem, Int.reduceToNat, List.take_nil, Nat.zero_mul, Nat.reduceEqDiff, Nat.reduceAdd, Nat.reduceLT, Nat.reduceLeDiff, Nat.reduceMul, ↓reduceIte, reduceCtorEq]
    refine spec_StealSlack_ (S := S) (L := L) (q := q) (by omega) (by omega) (Rd.own rfl) (Rd.own rfl) fun cS => ?_
    simp only [not_true_eq_false, not_false_eq_true, decide_true, decide_false, Bool.not_true, Bool.not_false, false_implies, true_implies, and_true, true_and, Bool.false_eq_true, Bool.true_eq_false, implies_true, Bool.not_not, Classical.not_not, go_sem, Int.reduceToNat, List.take_nil, Nat.zero_mul, Nat.reduceEqDiff, Nat.reduceAdd, Nat.reduceLT, Nat.reduceLeDiff, Nat.reduceMul, ↓reduceIte, reduceCtorEq]
    refine laws_sameInts_ (L := []) (M := stealV S L q) (by simp) (Rd.none (by simp)) (Rd.own rfl) ?_
    rw [hV]
    simp only [not_true_eq_false, not_false_eq_true, decide_true, decide_false, Bool.not_true, Bool.not_false, false_implies, true_implies, and_true, true_and, Bool.false_eq_true, Bool.true_eq_false, implies_true, Bool.not_not, Classical.not_not, go_sem, Int.reduceToNat, List.take_nil, Nat.zero_mul, Nat.reduceEqDiff, Nat.reduceAdd, Nat.reduceLT, Nat.reduceLeDiff, Nat.reduceMul, ↓reduceIte, reduceCtorEq]
    refine spec_JobsLegal_ (S := S) (L := L) (by omega) (by omega) (Rd.own rfl) (Rd.own rfl) ?_
    simp only [not_true_eq_false, not_false_eq_true, decide_true, decide_false, Bool.not_true, Bool.not_false, false_implies, true_implies, and_true, true_and, Bool.false_eq_true, Bool.true_eq_false, implies_true, Bool.not_not, Classical.not_not, go_sem, Int.reduceToNat, List.take_nil, Nat.zero_mul, Nat.reduceEqDiff, Nat.reduceAdd, Nat.reduceLT, Nat.reduceLeDiff, Nat.reduceMul, ↓reduceIte, reduceCtorEq]
    refine ⟨fun g1 => spec_ArrivalsLegal_ (L := [q]) (by simp) (Rd.own' rfl rfl) ?_, fun g1 => laws_alive_ ?_⟩
    · simp only [not_true_eq_false, not_false_eq_true, decide_true, decide_false, Bool.not_true, Bool.not_false, false_implies, true_implies, and_true, true_and, Bool.false_eq_true, Bool.true_eq_false, implies_true, Bool.not_not, Classical.not_not, go_sem, Int.reduceToNat, List.take_nil, Nat.zero_mul, Nat.reduceEqDiff, Nat.reduceAdd, Nat.reduceLT, Nat.reduceLeDiff, Nat.reduceMul, ↓reduceIte, reduceCtorEq]
      refine ⟨fun g2 => impl_RunEdf_ (S := S) (L := L) (by omega) (by omega) (Rd.own rfl) (Rd.own rfl) (fun hno => absurd g1 hno) (fun _ c1 c2 => ?_), fun g2 => laws_alive_ ?_⟩
      · simp only [not_true_eq_false, not_false_eq_true, decide_true, decide_false, Bool.not_true, Bool.not_false, false_implies, true_implies, and_true, true_and, Bool.false_eq_true, Bool.true_eq_false, implies_true, Bool.not_not, Classical.not_not, go_sem, Int.reduceToNat, List.take_nil, Nat.zero_mul, Nat.reduceEqDiff, Nat.reduceAdd, Nat.reduceLT, Nat.reduceLeDiff, Nat.reduceMul, ↓reduceIte, reduceCtorEq]
        have ne : missedL L (edfFin L) ≠ [] := fun e => hok ⟨g1, g2, e⟩
        have hpos := List.length_pos_iff.2 ne
        refine impl_Missed_ (L := L) (fin := edfFin L) (by omega) hEF (Rd.own rfl) (Rd.own' rfl hEF) (fun e => absurd e ne) (fun _ cM => ?_)
        simp only [not_true_eq_false, not_false_eq_true, decide_true, decide_false, Bool.not_true, Bool.not_false, false_implies, true_implies, and_true, true_and, Bool.false_eq_true, Bool.true_eq_false, implies_true, Bool.not_not, Classical.not_not, go_sem, Int.reduceToNat, List.take_nil, Nat.zero_mul, Nat.reduceEqDiff, Nat.reduceAdd, Nat.reduceLT, Nat.reduceLeDiff, Nat.reduceMul, ↓reduceIte, reduceCtorEq]
        refine ⟨fun _ => laws_alive_ ?_, fun hh => absurd hh (by omega)⟩
        simp only [not_true_eq_false, not_false_eq_true, decide_true, decide_false, Bool.not_true, Bool.not_false, false_implies, true_implies, and_true, true_and, Bool.false_eq_true, Bool.true_eq_false, implies_true, Bool.not_not, Classical.not_not, go_sem, Int.reduceToNat, List.take_nil, Nat.zero_mul, Nat.reduceEqDiff, Nat.reduceAdd, Nat.reduceLT, Nat.reduceLeDiff, Nat.reduceMul, ↓reduceIte, reduceCtorEq]
        exact Fin.plain rfl
      · simp only [not_true_eq_false, not_false_eq_true, decide_true, decide_false, Bool.not_true, Bool.not_false, false_implies, true_implies, and_true, true_and, Bool.false_eq_true, Bool.true_eq_false, implies_true, Bool.not_not, Classical.not_not, go_sem, Int.reduceToNat, List.take_nil, Nat.zero_mul, Nat.reduceEqDiff, Nat.reduceAdd, Nat.reduceLT, Nat.reduceLeDiff, Nat.reduceMul, ↓reduceIte, reduceCtorEq]
        exact Fin.plain rfl
    · simp only [not_true_eq_false, not_false_eq_true, decide_true, decide_false, Bool.not_true, Bool.not_false, false_implies, true_implies, and_true, true_and, Bool.false_eq_true, Bool.true_eq_false, implies_true, Bool.not_not, Classical.not_not, go_sem, Int.reduceToNat, List.take_nil, Nat.zero_mul, Nat.reduceEqDiff, Nat.reduceAdd, Nat.reduceLT, Nat.reduceLeDiff, Nat.reduceMul, ↓reduceIte, reduceCtorEq]
      exact Fin.plain rfl
theorem c_FnStealSlack (C : List Nat) (c : Nat) (hC : ∀ x ∈ C, x < 256) (_ : C.length * 1 ≤ 140737488351232) (hc : C.length ≤ c) : CallWp Try.prog n_laws_FnStealSlack [.sl 0 0 C.length c] [.ro (encByte.row C)] (fun x _ => x = .b true) := laws_FnStealSlack0 C hC c hc
end Go.Proofs.Ytdmoafmgeipenaa
