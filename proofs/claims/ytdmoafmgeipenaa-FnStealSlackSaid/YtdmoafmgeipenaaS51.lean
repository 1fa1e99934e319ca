import Derived.Test.YtdmoafmgeipenaaS10
import Derived.Test.YtdmoafmgeipenaaS14
import Derived.Test.YtdmoafmgeipenaaS6
import Derived.Test.YtdmoafmgeipenaaS20
import Derived.Test.YtdmoafmgeipenaaS50
import Derived.Test.YtdmoafmgeipenaaM34
namespace Go.Proofs.Ytdmoafmgeipenaa
open Go.Abs Go.Ds
set_option linter.unusedSimpArgs false
set_option linter.unusedVariables false
set_option maxRecDepth 20000
set_option maxHeartbeats 2000000
theorem Rd.own' {α : Type} {E : Enc α} {σ : List AB} {n len cap : Nat} {L : List α} (h : cellsOf σ n = some (E.row L)) (hl : L.length = len) : Rd E σ (.sl n 0 len cap) L := by subst hl; exact Rd.own h
theorem impl_StealSlack_1_ {σ : List AB} {x y : Nat} {v : AV} {T : List Int} {n : Int} (hx : cellsOf σ x = some [.i .i64 n]) (hy : cellsOf σ y = some [v]) (hv : Rd encInt σ v T) (hT : T.length ≤ 1000) (now : Int)
    {K : AV → List AB → Prop} (hk : K (.b (decide (now ∈ T ++ [n]))) σ) : CallWp Try.prog n_impl_StealSlack_1 [.i .i64 now, .p x 0, .p y 0] σ K := by
  refine call_impl_StealSlack_1 (by simp) ?_
  have dv := hv.data
  simp only [c_impl_StealSlack_1, onC_of hx, onC_of hy, dv, not_true_eq_false, not_false_eq_true, decide_true, decide_false, Bool.not_true, Bool.not_false, false_implies, true_implies, and_true, true_and, Bool.false_eq_true, Bool.true_eq_false, implies_true, Bool.not_not, Classical.not_not, go_sem, Int.reduceToNat, List.take_nil, Nat.zero_mul, Nat.reduceEqDiff, Nat.reduceAdd, Nat.reduceLT, Nat.reduceLeDiff, Nat.reduceMul, ↓reduceIte, reduceCtorEq]
  refine ⟨fun h => ?_, fun h => Fin.plain ?_⟩
  · refine slices_Contains_int_ now (by omega) hv ?_
    simp only [not_true_eq_false, not_false_eq_true, decide_true, decide_false, Bool.not_true, Bool.not_false, false_implies, true_implies, and_true, true_and, Bool.false_eq_true, Bool.true_eq_false, implies_true, Bool.not_not, Classical.not_not, go_sem, Int.reduceToNat, List.take_nil, Nat.zero_mul, Nat.reduceEqDiff, Nat.reduceAdd, Nat.reduceLT, Nat.reduceLeDiff, Nat.reduceMul, ↓reduceIte, reduceCtorEq]
    refine Fin.plain ?_
    rw [show decide (now ∈ T) = decide (now ∈ T ++ [n]) from decide_eq_decide.2 (by simp [h])]
    exact hk
  · rw [show true = decide (now ∈ T ++ [n]) from (decide_eq_true (by simp [h])).symm]; exact hk
theorem impl_paused_1T_ {σ : List AB} {z x y m : Nat} {v : AV} {T : List Int} {n : Int} {L : List Job} {done : List Int} {now : Nat} (hz : cellsOf σ z = some [.fn n_impl_StealSlack_1 [] [(x, 0), (y, 0)]]) (hx : cellsOf σ x = some [.i .i64 n]) (hy : cellsOf σ y = some [v]) (hv : Rd encInt σ v T) (hT : T.length ≤ 1000)
    (hm : Mach σ m L done now) (hl : L.length ≤ 1000000) {K : AV → List AB → Prop} (hk : K (.i .i64 (takenPick (T ++ [n]) L now done)) σ) : CallWp Try.prog n_impl_paused_1 [.p m 0, .p z 0] σ K := by
  have hm0 := hm
  obtain ⟨⟨j, c, d, c', e1, e2, e3⟩, e4⟩ := hm0
  refine call_impl_paused_1 (by simp) ?_
  simp only [c_impl_paused_1, onC_of hz, onC_of e1, not_true_eq_false, not_false_eq_true, decide_true, decide_false, Bool.not_true, Bool.not_false, false_implies, true_implies, and_true, true_and, Bool.false_eq_true, Bool.true_eq_false, implies_true, Bool.not_not, Classical.not_not, go_sem, Int.reduceToNat, List.take_nil, Nat.zero_mul, Nat.reduceEqDiff, Nat.reduceAdd, Nat.reduceLT, Nat.reduceLeDiff, Nat.reduceMul, ↓reduceIte, reduceCtorEq]
  refine onCall.by (impl_StealSlack_1_ hx hy hv hT now ⟨rfl, rfl⟩) ?_
  simp only [not_true_eq_false, not_false_eq_true, decide_true, decide_false, Bool.not_true, Bool.not_false, false_implies, true_implies, and_true, true_and, Bool.false_eq_true, Bool.true_eq_false, implies_true, Bool.not_not, Classical.not_not, go_sem, Int.reduceToNat, List.take_nil, Nat.zero_mul, Nat.reduceEqDiff, Nat.reduceAdd, Nat.reduceLT, Nat.reduceLeDiff, Nat.reduceMul, ↓reduceIte, reduceCtorEq]
  unfold takenPick at hk
  refine ⟨fun h => ?_, fun h => ?_⟩
  · rw [if_pos h] at hk; exact Fin.plain hk
  · rw [if_neg h] at hk
    refine impl_edf_ hm hl ?_
    simp only [go_sem, Int.reduceToNat, List.take_nil, Nat.zero_mul, Nat.reduceEqDiff, Nat.reduceAdd, Nat.reduceLT, Nat.reduceLeDiff, Nat.reduceMul, ↓reduceIte, reduceCtorEq]
    exact Fin.plain hk
def takeRun (T : List Int) (L : List Job) : List Int := (simU L (takenPick T L) 120).run
theorem takeFin_len (T : List Int) (L : List Job) : (takeFin T L).length = L.length := (simU_lens 120).2.1
theorem impl_pausedT_ {σ : List AB} {j c x y : Nat} {v : AV} {T : List Int} {n : Int} {L : List Job} (hj : cellsOf σ j = some (encJob.row L)) (hx : cellsOf σ x = some [.i .i64 n]) (hy : cellsOf σ y = some [v]) (hv : Rd encInt σ v T) (hT : T.length ≤ 1000) (hl : L.length ≤ 1000)
    {K : AV → List AB → Prop} (hk : ∀ c1 c2, K (.agg [.sl σ.length 0 120 c1, .sl (σ.length + 1) 0 L.length c2]) (σ ++ [.rw ty_int (encInt.row (takeRun (T ++ [n]) L)) c1, .rw ty_int (encInt.row (takeFin (T ++ [n]) L)) c2])) :
    CallWp Try.prog n_impl_paused [.sl j 0 L.length c, .fn n_impl_StealSlack_1 [] [(x, 0), (y, 0)]] σ K := by
  refine callC_impl_paused (by simp) fun hC hA => ?_
  simp only [c_impl_paused, List.append_assoc, at_new, at_new0, set_new, set_new0, not_true_eq_false, not_false_eq_true, decide_true, decide_false, Bool.not_true, Bool.not_false, false_implies, true_implies, and_true, true_and, Bool.false_eq_true, Bool.true_eq_false, implies_true, Bool.not_not, Classical.not_not, go_sem, Int.reduceToNat, List.take_nil, Nat.zero_mul, Nat.reduceEqDiff, Nat.reduceAdd, Nat.reduceLT, Nat.reduceLeDiff, Nat.reduceMul, ↓reduceIte, reduceCtorEq]
  refine impl_simulate_ (L := L) (takenPick (T ++ [n]) L) (cells_old hj _) hl (fun τ m done now hn' hm K hk => impl_paused_1T_ (z := σ.length) (x := x) (y := y) (cells_old (by simp [cellsOf]) τ) (cells_old (cells_old hx _) τ) (cells_old (cells_old hy _) τ) (hv.app.app) hT hm (by omega) hk) (fun now done => (taken_fair (T ++ [n]) L).lt now done) fun c1 c2 => ?_
  simp only [List.append_assoc, List.length_append, List.length_cons, List.length_nil, Nat.zero_add, Nat.add_assoc, at_new, at_new0, set_new, set_new0, not_true_eq_false, not_false_eq_true, decide_true, decide_false, Bool.not_true, Bool.not_false, false_implies, true_implies, and_true, true_and, Bool.false_eq_true, Bool.true_eq_false, implies_true, Bool.not_not, Classical.not_not, go_sem, Int.reduceToNat, List.take_nil, Nat.zero_mul, Nat.reduceEqDiff, Nat.reduceAdd, Nat.reduceLT, Nat.reduceLeDiff, Nat.reduceMul, ↓reduceIte, reduceCtorEq]
  exact Fin.pickG hC (Nat.le_refl _) [2, 3] (.agg [.sl σ.length 0 120 c1, .sl (σ.length + 1) 0 L.length c2]) _ (hk c1 c2) (hf := by simp [Go.Abs.cellsIn, Enc.row_bel])
def stealOk (S : List Task) (L : List Job) (q : Arr) : Prop := jobsLegal S L ∧ arrLegal [q] ∧ missedL L (edfFin L) = []
noncomputable def stealV (S : List Task) (L : List Job) (q : Arr) : List Int := open Classical in if stealOk S L q then stealL L q.t q.e else []
theorem arr_one {q : Arr} : arrLegal [q] ↔ (0 ≤ q.t ∧ q.t ≤ 119) ∧ 1 ≤ q.e ∧ q.e ≤ 20 := by
  constructor
  · rintro ⟨_, h⟩
    have := h 0 (by simp)
    exact ⟨this.1, this.2.1⟩
  · rintro ⟨h1, h2⟩
    refine ⟨by simp, fun k hk => ?_⟩
    have : k = 0 := by simp at hk; omega
    subst this
    exact ⟨h1, h2, fun h0 => absurd h0 (by omega)⟩
def stealSt (S : List Task) (L : List Job) (q : Arr) (c c' : Nat) (i : Nat × Option Nat) : St :=
  match i with
  | (k, none) => ⟨[(1, .sl 1 0 L.length c'), (5, .p 2 0), (7, .p 3 0), (8, .p 4 0)], [.ro (encTask.row S), .ro (encJob.row L), .rw ty_impl_Arrival [.i .i64 q.t, .i .i64 q.e] 2, .rw ty_sl_int [.sn] 1, .rw ty_int [.i .i64 (q.t + k)] 1]⟩
  | (k, some cp) => ⟨[(1, .sl 1 0 L.length c'), (5, .p 2 0), (7, .p 3 0), (8, .p 4 0)], [.ro (encTask.row S), .ro (encJob.row L), .rw ty_impl_Arrival [.i .i64 q.t, .i .i64 q.e] 2, .rw ty_sl_int [.sl 5 0 (stealUp L q.t q.e k).length cp] 1, .rw ty_int [.i .i64 (q.t + k)] 1, .rw ty_int (encInt.row (stealUp L q.t q.e k)) cp]⟩
def stealMd (S : List Task) (L : List Job) (q : Arr) (c c' k : Nat) (i : Option Nat) : St :=
  match i with
  | none => ⟨[(1, .sl 1 0 L.length c'), (5, .p 2 0), (7, .p 3 0), (8, .p 4 0)], [.ro (encTask.row S), .ro (encJob.row L), .rw ty_impl_Arrival [.i .i64 q.t, .i .i64 q.e] 2, .rw ty_sl_int [.sn] 1, .rw ty_int [.i .i64 (q.t + k)] 1]⟩
  | some cp => ⟨[(1, .sl 1 0 L.length c'), (5, .p 2 0), (7, .p 3 0), (8, .p 4 0)], [.ro (encTask.row S), .ro (encJob.row L), .rw ty_impl_Arrival [.i .i64 q.t, .i .i64 q.e] 2, .rw ty_sl_int [.sl 5 0 (stealUp L q.t q.e (k + 1)).length cp] 1, .rw ty_int [.i .i64 (q.t + k)] 1, .rw ty_int (encInt.row (stealUp L q.t q.e (k + 1))) cp]⟩
theorem impl_StealSlack0 (S : List Task) (L : List Job) (q : Arr) (hs : S.length ≤ 1048576) (hl : L.length ≤ 1048576) (c c' : Nat) : CallWp Try.prog n_impl_StealSlack [.sl 0 0 S.length c, .sl 1 0 L.length c', .agg [.i .i64 q.t, .i .i64 q.e]] [.ro (encTask.row S), .ro (encJob.row L)]
    (fun x σ' => ∃ τ, σ' = [.ro (encTask.row S), .ro (encJob.row L)] ++ τ ∧ MissP 2 (stealV S L q) x τ) := by
  refine call_impl_StealSlack (by simp) ?_
  simp only [c_impl_StealSlack, not_true_eq_false, not_false_eq_true, decide_true, decide_false, Bool.not_true, Bool.not_false, false_implies, true_implies, and_true, true_and, Bool.false_eq_true, Bool.true_eq_false, implies_true, Bool.not_not, Classical.not_not, go_sem, Int.reduceToNat, List.take_nil, Nat.zero_mul, Nat.reduceEqDiff, Nat.reduceAdd, Nat.reduceLT, Nat.reduceLeDiff, Nat.reduceMul, ↓reduceIte, reduceCtorEq]
  have no : ¬ stealOk S L q → ∀ τ : List AB, Fin 2 ([.ro (encTask.row S), .ro (encJob.row L)] ++ τ) .sn (fun x σ' => ∃ τ, σ' = .ro (encTask.row S) :: .ro (encJob.row L) :: τ ∧ MissP 2 (stealV S L q) x τ) := fun hno τ =>
    Fin.drop (σ := [.ro (encTask.row S), .ro (encJob.row L)]) (Closed.add (σ := []) (fun n B h => by simp at h) (by simp [Go.Abs.cellsIn, Go.Abs.Enc.row_bel])) (Nat.le_refl _) rfl ⟨[], rfl, .inl ⟨if_neg hno, rfl, rfl⟩⟩
  refine impl_JobsLegal_ (S := S) (L := L) (by omega) (by omega) (Rd.own rfl) (Rd.own rfl) ?_
  simp only [not_true_eq_false, not_false_eq_true, decide_true, decide_false, Bool.not_true, Bool.not_false, false_implies, true_implies, and_true, true_and, Bool.false_eq_true, Bool.true_eq_false, implies_true, Bool.not_not, Classical.not_not, go_sem, Int.reduceToNat, List.take_nil, Nat.zero_mul, Nat.reduceEqDiff, Nat.reduceAdd, Nat.reduceLT, Nat.reduceLeDiff, Nat.reduceMul, ↓reduceIte, reduceCtorEq]
  refine ⟨fun h1 => impl_ArrivalsLegal_ (L := [q]) (by simp) (Rd.own' rfl rfl) ?_, fun h1 => no (fun h => h1 h.1) [_]⟩
  simp only [not_true_eq_false, not_false_eq_true, decide_true, decide_false, Bool.not_true, Bool.not_false, false_implies, true_implies, and_true, true_and, Bool.false_eq_true, Bool.true_eq_false, implies_true, Bool.not_not, Classical.not_not, go_sem, Int.reduceToNat, List.take_nil, Nat.zero_mul, Nat.reduceEqDiff, Nat.reduceAdd, Nat.reduceLT, Nat.reduceLeDiff, Nat.reduceMul, ↓reduceIte, reduceCtorEq]
  refine ⟨fun h2 => ?_, fun h2 => no (fun h => h2 h.2.1) [_, _]⟩
  have h60 := h1.2.1.1
  obtain ⟨hqt, hqe⟩ := arr_one.1 h2
  refine impl_simulate_ (L := L) (edfPick L) rfl (by omega) (fun τ m done now hn hm K hk => impl_edf_ hm (by omega) hk) (fun now done => bestF_range _ _ _) fun c1 c2 => ?_
  simp only [not_true_eq_false, not_false_eq_true, decide_true, decide_false, Bool.not_true, Bool.not_false, false_implies, true_implies, and_true, true_and, Bool.false_eq_true, Bool.true_eq_false, implies_true, Bool.not_not, Classical.not_not, go_sem, Int.reduceToNat, List.take_nil, Nat.zero_mul, Nat.reduceEqDiff, Nat.reduceAdd, Nat.reduceLT, Nat.reduceLeDiff, Nat.reduceMul, ↓reduceIte, reduceCtorEq]
  refine impl_Missed_ (L := L) (fin := edfFin L) (by omega) (simU_lens 120).2.1 (Rd.own rfl) (Rd.own' rfl (simU_lens 120).2.1) (fun e => ?_) (fun ne cM => ?_)
  · simp only [not_true_eq_false, not_false_eq_true, decide_true, decide_false, Bool.not_true, Bool.not_false, false_implies, true_implies, and_true, true_and, Bool.false_eq_true, Bool.true_eq_false, implies_true, Bool.not_not, Classical.not_not, go_sem, Int.reduceToNat, List.take_nil, Nat.zero_mul, Nat.reduceEqDiff, Nat.reduceAdd, Nat.reduceLT, Nat.reduceLeDiff, Nat.reduceMul, ↓reduceIte, reduceCtorEq]
    have hok : stealOk S L q := ⟨h1, h2, e⟩
    have hV : stealV S L q = stealL L q.t q.e := if_pos hok
    refine ⟨fun h => absurd h (by decide), fun _ => ?_⟩
    refine loop_intro (stealSt S L q c c') (fun i => (i.1 : Int) ≤ 120 - q.t ∧ match i.2 with | none => stealUp L q.t q.e i.1 = [] | some cp => stealUp L q.t q.e i.1 ≠ [] ∧ (stealUp L q.t q.e i.1).length ≤ cp) (fun i => 120 - i.1) (0, none) ⟨by simp only; omega, rfl⟩
      (by simp only [stealSt, show q.t + ((0 : Nat) : Int) = q.t from by omega]; exact Wk.pick [0, 1, 2, 6, 7]) ?_
    have step : ∀ k : Nat, ((stealUp L q.t q.e k).length : Int) < q.e → (fitsT L (stealUp L q.t q.e k ++ [q.t + k]) → stealUp L q.t q.e (k + 1) = stealUp L q.t q.e k ++ [q.t + k]) ∧ (¬ fitsT L (stealUp L q.t q.e k ++ [q.t + k]) → stealUp L q.t q.e (k + 1) = stealUp L q.t q.e k) := fun k hk => by
      simp only [stealUp]
      exact ⟨fun h => if_pos ⟨hk, h⟩, fun h => if_neg fun g => h g.2⟩
    rintro ⟨k, o⟩ ⟨hk, ho⟩
    simp only at hk ho
    have hlen := steal_len (L := L) (t := q.t) (e := q.e) (by omega) k
    cases o with
    | none =>
      simp only at ho
      simp only [l0_impl_StealSlack, stealSt, not_true_eq_false, not_false_eq_true, decide_true, decide_false, Bool.not_true, Bool.not_false, false_implies, true_implies, and_true, true_and, Bool.false_eq_true, Bool.true_eq_false, implies_true, Bool.not_not, Classical.not_not, go_sem, Int.reduceToNat, List.take_nil, Nat.zero_mul, Nat.reduceEqDiff, Nat.reduceAdd, Nat.reduceLT, Nat.reduceLeDiff, Nat.reduceMul, ↓reduceIte, reduceCtorEq]
      have h0 : stealUp L q.t q.e k = [] := ho
      have stp := step k (by rw [h0]; show ((0 : Nat) : Int) < q.e; omega)
      rw [h0, List.nil_append] at stp
      have hx : (120 : Int) ≤ q.t + k → Fin 2 [.ro (encTask.row S), .ro (encJob.row L), .rw ty_impl_Arrival [.i .i64 q.t, .i .i64 q.e] 2, .rw ty_sl_int [.sn] 1, .rw ty_int [.i .i64 (q.t + k)] 1] .sn (fun x σ' => ∃ τ, σ' = .ro (encTask.row S) :: .ro (encJob.row L) :: τ ∧ MissP 2 (stealV S L q) x τ) := fun hge =>
        Fin.pick [0, 1] .sn _ ⟨[], rfl, .inl ⟨by rw [hV, ← steal_all (k := k) (by omega) (.inr hge), h0], rfl, rfl⟩⟩
      refine ⟨fun h3 => ⟨fun h4 => ?_, fun h4 => absurd h4 (by omega)⟩, fun h3 => slices_Clip_int_nil ?_⟩
      · refine seq_join (stealMd S L q c c' k) (fun o => match o with | none => stealUp L q.t q.e (k + 1) = [] | some cp => stealUp L q.t q.e (k + 1) ≠ [] ∧ (stealUp L q.t q.e (k + 1)).length ≤ cp) ?_ ?_
        · simp only [not_true_eq_false, not_false_eq_true, decide_true, decide_false, Bool.not_true, Bool.not_false, false_implies, true_implies, and_true, true_and, Bool.false_eq_true, Bool.true_eq_false, implies_true, Bool.not_not, Classical.not_not, go_sem, Int.reduceToNat, List.take_nil, Nat.zero_mul, Nat.reduceEqDiff, Nat.reduceAdd, Nat.reduceLT, Nat.reduceLeDiff, Nat.reduceMul, ↓reduceIte, reduceCtorEq]
          refine impl_pausedT_ (x := 4) (y := 3) (T := []) (n := q.t + k) (L := L) rfl rfl rfl (.inr ⟨rfl, rfl, by simp⟩) (by simp) (by omega) fun d1 d2 => ?_
          simp only [List.nil_append, not_true_eq_false, not_false_eq_true, decide_true, decide_false, Bool.not_true, Bool.not_false, false_implies, true_implies, and_true, true_and, Bool.false_eq_true, Bool.true_eq_false, implies_true, Bool.not_not, Classical.not_not, go_sem, Int.reduceToNat, List.take_nil, Nat.zero_mul, Nat.reduceEqDiff, Nat.reduceAdd, Nat.reduceLT, Nat.reduceLeDiff, Nat.reduceMul, ↓reduceIte, reduceCtorEq]
          refine impl_Missed_ (L := L) (fin := takeFin [q.t + k] L) (by omega) (takeFin_len _ _) (Rd.own rfl) (Rd.own' rfl (takeFin_len _ _)) (fun e => ?_) (fun ne cM => ?_)
          · have e2 := stp.1 e
            simp only [not_true_eq_false, not_false_eq_true, decide_true, decide_false, Bool.not_true, Bool.not_false, false_implies, true_implies, and_true, true_and, Bool.false_eq_true, Bool.true_eq_false, implies_true, Bool.not_not, Classical.not_not, go_sem, Int.reduceToNat, List.take_nil, Nat.zero_mul, Nat.reduceEqDiff, Nat.reduceAdd, Nat.reduceLT, Nat.reduceLeDiff, Nat.reduceMul, ↓reduceIte, reduceCtorEq]
            intro c3 hc3
            refine kJ_intro (some c3) (by simp only [e2]; exact ⟨by simp, by simpa using hc3⟩) ?_
            simp only [stealMd, e2, show encInt.row [q.t + (k : Int)] = [AV.i .i64 (q.t + k)] from rfl]
            exact Wk.pickR [0, 1, 2, 3, 4, 9]
          · have e2 := stp.2 ne
            have hpos := List.length_pos_iff.2 ne
            simp only [not_true_eq_false, not_false_eq_true, decide_true, decide_false, Bool.not_true, Bool.not_false, false_implies, true_implies, and_true, true_and, Bool.false_eq_true, Bool.true_eq_false, implies_true, Bool.not_not, Classical.not_not, go_sem, Int.reduceToNat, List.take_nil, Nat.zero_mul, Nat.reduceEqDiff, Nat.reduceAdd, Nat.reduceLT, Nat.reduceLeDiff, Nat.reduceMul, ↓reduceIte, reduceCtorEq]
            refine ⟨fun h => absurd h (by omega), fun _ => ?_⟩
            refine kJ_intro none (by simp only [e2]) ?_
            simp only [stealMd]
            exact Wk.pick [0, 1, 2, 3, 4]
        · rintro (_ | c3) hi
          · replace hi : stealUp L q.t q.e (k + 1) = [] := hi
            simp only [stealMd, not_true_eq_false, not_false_eq_true, decide_true, decide_false, Bool.not_true, Bool.not_false, false_implies, true_implies, and_true, true_and, Bool.false_eq_true, Bool.true_eq_false, implies_true, Bool.not_not, Classical.not_not, go_sem, Int.reduceToNat, List.take_nil, Nat.zero_mul, Nat.reduceEqDiff, Nat.reduceAdd, Nat.reduceLT, Nat.reduceLeDiff, Nat.reduceMul, ↓reduceIte, reduceCtorEq]
            refine ⟨by omega, (k + 1, none), ⟨⟨by simp only; omega, hi⟩, by simp only; omega⟩, ?_⟩
            simp only [show q.t + ((k + 1 : Nat) : Int) = q.t + k + 1 from by omega]
            exact Wk.pick [0, 1, 2, 3, 5]
          · replace hi : stealUp L q.t q.e (k + 1) ≠ [] ∧ (stealUp L q.t q.e (k + 1)).length ≤ c3 := hi
            simp only [stealMd, not_true_eq_false, not_false_eq_true, decide_true, decide_false, Bool.not_true, Bool.not_false, false_implies, true_implies, and_true, true_and, Bool.false_eq_true, Bool.true_eq_false, implies_true, Bool.not_not, Classical.not_not, go_sem, Int.reduceToNat, List.take_nil, Nat.zero_mul, Nat.reduceEqDiff, Nat.reduceAdd, Nat.reduceLT, Nat.reduceLeDiff, Nat.reduceMul, ↓reduceIte, reduceCtorEq]
            refine ⟨by omega, (k + 1, some c3), ⟨⟨by simp only; omega, hi⟩, by simp only; omega⟩, ?_⟩
            simp only [show q.t + ((k + 1 : Nat) : Int) = q.t + k + 1 from by omega]
            exact Wk.pickR [0, 1, 2, 3, 6, 5]
      · simp only [not_true_eq_false, not_false_eq_true, decide_true, decide_false, Bool.not_true, Bool.not_false, false_implies, true_implies, and_true, true_and, Bool.false_eq_true, Bool.true_eq_false, implies_true, Bool.not_not, Classical.not_not, go_sem, Int.reduceToNat, List.take_nil, Nat.zero_mul, Nat.reduceEqDiff, Nat.reduceAdd, Nat.reduceLT, Nat.reduceLeDiff, Nat.reduceMul, ↓reduceIte, reduceCtorEq]
        exact hx (by omega)
    | some cp =>
      simp only at ho
      simp only [l0_impl_StealSlack, stealSt, not_true_eq_false, not_false_eq_true, decide_true, decide_false, Bool.not_true, Bool.not_false, false_implies, true_implies, and_true, true_and, Bool.false_eq_true, Bool.true_eq_false, implies_true, Bool.not_not, Classical.not_not, go_sem, Int.reduceToNat, List.take_nil, Nat.zero_mul, Nat.reduceEqDiff, Nat.reduceAdd, Nat.reduceLT, Nat.reduceLeDiff, Nat.reduceMul, ↓reduceIte, reduceCtorEq]
      have stp := step k
      have hx : (q.e ≤ (stealUp L q.t q.e k).length ∨ 120 ≤ q.t + k) → Fin 2 [.ro (encTask.row S), .ro (encJob.row L), .rw ty_impl_Arrival [.i .i64 q.t, .i .i64 q.e] 2, .rw ty_sl_int [.sl 5 0 (stealUp L q.t q.e k).length cp] 1, .rw ty_int [.i .i64 (q.t + k)] 1, .rw ty_int (encInt.row (stealUp L q.t q.e k)) cp] (.sl 5 0 (stealUp L q.t q.e k).length (stealUp L q.t q.e k).length) (fun x σ' => ∃ τ, σ' = .ro (encTask.row S) :: .ro (encJob.row L) :: τ ∧ MissP 2 (stealV S L q) x τ) := fun hge =>
        Fin.pick [0, 1, 5] (.sl 2 0 (stealUp L q.t q.e k).length (stealUp L q.t q.e k).length) [.ro (encTask.row S), .ro (encJob.row L), .rw ty_int (encInt.row (stealUp L q.t q.e k)) cp] ⟨_, rfl, .inr ⟨by rw [hV, ← steal_all (k := k) (by omega) hge]; exact ho.1, cp, by rw [hV, ← steal_all (k := k) (by omega) hge], by rw [hV, ← steal_all (k := k) (by omega) hge]⟩⟩
      refine ⟨fun h3 => ⟨fun h4 => ?_, fun h4 => ?_⟩, fun h3 => ?_⟩
      · refine seq_join (stealMd S L q c c' k) (fun o => match o with | none => stealUp L q.t q.e (k + 1) = [] | some cp => stealUp L q.t q.e (k + 1) ≠ [] ∧ (stealUp L q.t q.e (k + 1)).length ≤ cp) ?_ ?_
        · simp only [not_true_eq_false, not_false_eq_true, decide_true, decide_false, Bool.not_true, Bool.not_false, false_implies, true_implies, and_true, true_and, Bool.false_eq_true, Bool.true_eq_false, implies_true, Bool.not_not, Classical.not_not, go_sem, Int.reduceToNat, List.take_nil, Nat.zero_mul, Nat.reduceEqDiff, Nat.reduceAdd, Nat.reduceLT, Nat.reduceLeDiff, Nat.reduceMul, ↓reduceIte, reduceCtorEq]
          refine impl_pausedT_ (x := 4) (y := 3) (T := stealUp L q.t q.e k) (n := q.t + k) (L := L) rfl rfl rfl (Rd.own rfl) (by omega) (by omega) fun d1 d2 => ?_
          simp only [not_true_eq_false, not_false_eq_true, decide_true, decide_false, Bool.not_true, Bool.not_false, false_implies, true_implies, and_true, true_and, Bool.false_eq_true, Bool.true_eq_false, implies_true, Bool.not_not, Classical.not_not, go_sem, Int.reduceToNat, List.take_nil, Nat.zero_mul, Nat.reduceEqDiff, Nat.reduceAdd, Nat.reduceLT, Nat.reduceLeDiff, Nat.reduceMul, ↓reduceIte, reduceCtorEq]
          refine impl_Missed_ (L := L) (fin := takeFin (stealUp L q.t q.e k ++ [q.t + k]) L) (by omega) (takeFin_len _ _) (Rd.own rfl) (Rd.own' rfl (takeFin_len _ _)) (fun e => ?_) (fun ne cM => ?_)
          · have e2 := (stp h4).1 e
            have hl1 : (stealUp L q.t q.e (k + 1)).length = (stealUp L q.t q.e k).length + 1 := by rw [e2]; simp
            have er : List.take (stealUp L q.t q.e k).length (encInt.row (stealUp L q.t q.e k)) ++ [AV.i IntKind.i64 (q.t + k)] = encInt.row (stealUp L q.t q.e (k + 1)) := by
              rw [List.take_of_length_le (by simp [lenI]), appI, e2]
            simp only [lenI, er, not_true_eq_false, not_false_eq_true, decide_true, decide_false, Bool.not_true, Bool.not_false, false_implies, true_implies, and_true, true_and, Bool.false_eq_true, Bool.true_eq_false, implies_true, Bool.not_not, Classical.not_not, go_sem, Int.reduceToNat, List.take_nil, Nat.zero_mul, Nat.reduceEqDiff, Nat.reduceAdd, Nat.reduceLT, Nat.reduceLeDiff, Nat.reduceMul, ↓reduceIte, reduceCtorEq]
            refine ⟨by omega, fun c3 hc3 => ?_⟩
            refine kJ_intro (some c3) ⟨by rw [e2]; simp, by rw [hl1]; exact hc3⟩ ?_
            simp only [stealMd, hl1]
            exact Wk.pickR [0, 1, 2, 3, 4, 10]
          · have e2 := (stp h4).2 ne
            have hpos := List.length_pos_iff.2 ne
            simp only [not_true_eq_false, not_false_eq_true, decide_true, decide_false, Bool.not_true, Bool.not_false, false_implies, true_implies, and_true, true_and, Bool.false_eq_true, Bool.true_eq_false, implies_true, Bool.not_not, Classical.not_not, go_sem, Int.reduceToNat, List.take_nil, Nat.zero_mul, Nat.reduceEqDiff, Nat.reduceAdd, Nat.reduceLT, Nat.reduceLeDiff, Nat.reduceMul, ↓reduceIte, reduceCtorEq]
            refine ⟨fun h => absurd h (by omega), fun _ => ?_⟩
            refine kJ_intro (some cp) (by simp only [e2]; exact ho) ?_
            simp only [stealMd, e2]
            exact Wk.pick [0, 1, 2, 3, 4, 5]
        · rintro (_ | c3) hi
          · replace hi : stealUp L q.t q.e (k + 1) = [] := hi
            simp only [stealMd, not_true_eq_false, not_false_eq_true, decide_true, decide_false, Bool.not_true, Bool.not_false, false_implies, true_implies, and_true, true_and, Bool.false_eq_true, Bool.true_eq_false, implies_true, Bool.not_not, Classical.not_not, go_sem, Int.reduceToNat, List.take_nil, Nat.zero_mul, Nat.reduceEqDiff, Nat.reduceAdd, Nat.reduceLT, Nat.reduceLeDiff, Nat.reduceMul, ↓reduceIte, reduceCtorEq]
            refine ⟨by omega, (k + 1, none), ⟨⟨by simp only; omega, hi⟩, by simp only; omega⟩, ?_⟩
            simp only [show q.t + ((k + 1 : Nat) : Int) = q.t + k + 1 from by omega]
            exact Wk.pick [0, 1, 2, 3, 5]
          · replace hi : stealUp L q.t q.e (k + 1) ≠ [] ∧ (stealUp L q.t q.e (k + 1)).length ≤ c3 := hi
            simp only [stealMd, not_true_eq_false, not_false_eq_true, decide_true, decide_false, Bool.not_true, Bool.not_false, false_implies, true_implies, and_true, true_and, Bool.false_eq_true, Bool.true_eq_false, implies_true, Bool.not_not, Classical.not_not, go_sem, Int.reduceToNat, List.take_nil, Nat.zero_mul, Nat.reduceEqDiff, Nat.reduceAdd, Nat.reduceLT, Nat.reduceLeDiff, Nat.reduceMul, ↓reduceIte, reduceCtorEq]
            refine ⟨by omega, (k + 1, some c3), ⟨⟨by simp only; omega, hi⟩, by simp only; omega⟩, ?_⟩
            simp only [show q.t + ((k + 1 : Nat) : Int) = q.t + k + 1 from by omega]
            exact Wk.pickR [0, 1, 2, 3, 6, 5]
      · refine slices_Clip_int_ (b := .rw ty_int (encInt.row (stealUp L q.t q.e k)) cp) rfl ho.2 ?_
        simp only [not_true_eq_false, not_false_eq_true, decide_true, decide_false, Bool.not_true, Bool.not_false, false_implies, true_implies, and_true, true_and, Bool.false_eq_true, Bool.true_eq_false, implies_true, Bool.not_not, Classical.not_not, go_sem, Int.reduceToNat, List.take_nil, Nat.zero_mul, Nat.reduceEqDiff, Nat.reduceAdd, Nat.reduceLT, Nat.reduceLeDiff, Nat.reduceMul, ↓reduceIte, reduceCtorEq]
        exact hx (.inl (by omega))
      · refine slices_Clip_int_ (b := .rw ty_int (encInt.row (stealUp L q.t q.e k)) cp) rfl ho.2 ?_
        simp only [not_true_eq_false, not_false_eq_true, decide_true, decide_false, Bool.not_true, Bool.not_false, false_implies, true_implies, and_true, true_and, Bool.false_eq_true, Bool.true_eq_false, implies_true, Bool.not_not, Classical.not_not, go_sem, Int.reduceToNat, List.take_nil, Nat.zero_mul, Nat.reduceEqDiff, Nat.reduceAdd, Nat.reduceLT, Nat.reduceLeDiff, Nat.reduceMul, ↓reduceIte, reduceCtorEq]
        exact hx (.inr (by omega))
  · simp only [not_true_eq_false, not_false_eq_true, decide_true, decide_false, Bool.not_true, Bool.not_false, false_implies, true_implies, and_true, true_and, Bool.false_eq_true, Bool.true_eq_false, implies_true, Bool.not_not, Classical.not_not, go_sem, Int.reduceToNat, List.take_nil, Nat.zero_mul, Nat.reduceEqDiff, Nat.reduceAdd, Nat.reduceLT, Nat.reduceLeDiff, Nat.reduceMul, ↓reduceIte, reduceCtorEq]
    exact ⟨fun _ => no (fun h => ne h.2.2) [_, _, _, _, _], fun h => by have := List.length_pos_iff.2 ne; omega⟩
theorem impl_StealSlack_ {S : List Task} {L : List Job} {q : Arr} (hs : S.length ≤ 1048576) (hl : L.length ≤ 1048576) {v u : AV} {σ : List AB} (h : Rd encTask σ v S) (h' : Rd encJob σ u L) {K : AV → List AB → Prop} (hn : stealV S L q = [] → K .sn σ)
    (hy : stealV S L q ≠ [] → ∀ c, K (.sl σ.length 0 (stealV S L q).length (stealV S L q).length) (σ ++ [.rw ty_int (encInt.row (stealV S L q)) c])) : CallWp Try.prog n_impl_StealSlack [v, u, .agg [.i .i64 q.t, .i .i64 q.e]] σ K := by
  refine call_news _ (rds_cons h.r (rds1 h'.r)) (fun c => [.sl 0 0 S.length (c 0), .sl 1 0 L.length (c 1), .agg [.i .i64 q.t, .i .i64 q.e]]) (MissP 2 (stealV S L q)) (fun c => impl_StealSlack0 S L q hs hl (c 0) (c 1)) (fun _ _ h => h.fr) (fun ν c h => ⟨h.1, h.2.1, .inl rfl, trivial⟩) (fun _ => rfl) ?_
  rintro x τ (⟨hno, rfl, rfl⟩ | ⟨hyes, c, rfl, rfl⟩)
  · rw [List.append_nil]; exact hn hno
  · exact hy hyes c
end Go.Proofs.Ytdmoafmgeipenaa
