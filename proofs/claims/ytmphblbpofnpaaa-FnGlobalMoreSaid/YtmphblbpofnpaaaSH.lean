import Derived.Test.YtmphblbpofnpaaaS7
import Derived.Test.YtmphblbpofnpaaaC4
import Derived.Test.YtmphblbpofnpaaaM47
import Derived.Test.YtmphblbpofnpaaaSG
import Derived.Test.YtmphblbpofnpaaaS5
namespace Go.Proofs.Ytmphblbpofnpaaa
open Go.Abs Go.Ds
set_option linter.unusedSimpArgs false
set_option linter.unusedVariables false
set_option maxRecDepth 20000
set_option maxHeartbeats 2000000
theorem gSel_stop {L : List Job} {now : Nat} {done : List Int} {k : Nat} (h : gNext L now done (gSel L now done k) < 0) : ∀ n, k ≤ n → gSel L now done n = gSel L now done k
  | 0, hk => by have : k = 0 := by omega
                subst this; rfl
  | n + 1, hk => by
    rcases Nat.lt_or_ge n k with g | g
    · have : k = n + 1 := by omega
      subst this; rfl
    · have ih := gSel_stop h n g
      simp only [gSel, ih, h, if_true]
theorem gSel_snoc {L : List Job} {now : Nat} {done : List Int} {k : Nat} (h : ¬ gNext L now done (gSel L now done k) < 0) : gSel L now done (k + 1) = gSel L now done k ++ [(gNext L now done (gSel L now done k)).toNat] := by
  simp only [gSel, h, if_false]
theorem spec_l14Pick0 (L : List Job) (done : List Int) (now n : Nat) (hn : now ≤ 1000) (hnn : n ≤ 1000) (hl : L.length ≤ 1000) (hd : done.length = L.length) (c c' : Nat) :
    CallWp Try.prog n_spec_l14Pick [.sl 0 0 L.length c, .sl 1 0 (leftOf L done).length c', .i .i64 now, .i .i64 n] [.ro (encJob.row L), .ro (encInt.row (leftOf L done))]
      (fun x σ => ∃ cap, x = .sl 2 0 (natsOf (gSel L now done n)).length cap ∧ σ = [.ro (encJob.row L), .ro (encInt.row (leftOf L done))] ++ [.rw ty_int (encInt.row (natsOf (gSel L now done n))) (cap * 1)]) := by
  refine call_spec_l14Pick (by simp) ?_
  simp only [c_spec_l14Pick, not_true_eq_false, not_false_eq_true, decide_true, decide_false, Bool.not_true, Bool.not_false, false_implies, true_implies, and_true, true_and, Bool.false_eq_true, Bool.true_eq_false, implies_true, Bool.not_not, Classical.not_not, go_sem, Int.reduceToNat, List.take_nil, Nat.zero_mul, Nat.reduceEqDiff, Nat.reduceAdd, Nat.reduceLT, Nat.reduceLeDiff, Nat.reduceMul, ↓reduceIte, reduceCtorEq]
  have hlf := leftOf_length L done
  refine loop_intro (fun i : Nat × Nat => ⟨[(0, .sl 0 0 L.length c), (1, .sl 1 0 (leftOf L done).length c'), (2, .i .i64 now), (3, .i .i64 n), (9, .sl 2 0 i.1 i.2)], [.ro (encJob.row L), .ro (encInt.row (leftOf L done)), .rw ty_int (encInt.row (natsOf (gSel L now done i.1))) i.2]⟩)
    (fun i => i.1 ≤ n ∧ (gSel L now done i.1).length = i.1) (fun i => n - i.1) (0, 0) ⟨Nat.zero_le _, rfl⟩ (Wk.pick [0, 1, 2]) ?_
  rintro ⟨k, cap⟩ ⟨hk1, hk2⟩
  simp only at hk1 hk2
  simp only [l1_spec_l14Pick, not_true_eq_false, not_false_eq_true, decide_true, decide_false, Bool.not_true, Bool.not_false, false_implies, true_implies, and_true, true_and, Bool.false_eq_true, Bool.true_eq_false, implies_true, Bool.not_not, Classical.not_not, go_sem, Int.reduceToNat, List.take_nil, Nat.zero_mul, Nat.reduceEqDiff, Nat.reduceAdd, Nat.reduceLT, Nat.reduceLeDiff, Nat.reduceMul, ↓reduceIte, reduceCtorEq]
  have ho := hk2
  have hnl := natsOf_len (gSel L now done k)
  refine ⟨fun hkn => ?_, fun hkn => ?_⟩
  · generalize hoo : gSel L now done k = o at ho hnl
    generalize hok : (fun i : Nat => readyJ L done now i && !(o.contains i)) = ok
    refine loop_count L.length (fun i => ⟨[(0, .sl 0 0 L.length c), (1, .sl 1 0 (leftOf L done).length c'), (2, .i .i64 now), (3, .i .i64 n), (9, .sl 2 0 k cap), (10, .i .i64 (bestF i ok fun i => (L.getD i default).D)), (11, .i .i64 i)], [.ro (encJob.row L), .ro (encInt.row (leftOf L done)), .rw ty_int (encInt.row (natsOf o)) cap]⟩) (fun _ => True) trivial (Wk.keep (by simp [look_cons, bestF])) fun i hil _ => ?_
    simp only [l0_spec_l14Pick, not_true_eq_false, not_false_eq_true, decide_true, decide_false, Bool.not_true, Bool.not_false, false_implies, true_implies, and_true, true_and, Bool.false_eq_true, Bool.true_eq_false, implies_true, Bool.not_not, Classical.not_not, go_sem, Int.reduceToNat, List.take_nil, Nat.zero_mul, Nat.reduceEqDiff, Nat.reduceAdd, Nat.reduceLT, Nat.reduceLeDiff, Nat.reduceMul, ↓reduceIte, reduceCtorEq]
    refine ⟨fun hl1 => ?_, fun hl1 => ?_⟩
    · have hi1 : i < (leftOf L done).length := by omega
      have hb := bestF_range ok (fun i => (L.getD i default).D) i
      have hsucc := bestF_succ i ok (fun i => (L.getD i default).D)
      have gLi : L.getD i default = L[i] := by simp [List.getD_eq_getElem?_getD, hl1]
      have elf : (leftOf L done)[i] = L[i].E - gI done i := by rw [leftOf_get, gLi]
      have eok : ok i = (decide (L[i].R ≤ (now : Int) ∧ 0 < (leftOf L done)[i]) && decide (i ∉ o)) := by
        rw [← hok]
        simp only [readyJ, gLi, elf, List.contains_eq_mem]
        congr 1
        · rw [decide_eq_decide]; omega
        · simp
      rw [gLi] at hsucc
      generalize bestF i ok (fun i => (L.getD i default).D) = b at hb hsucc ⊢
      rw [hsucc, eok]
      simp only [rdJ1 hl1, rdJ2 hl1, rdI hi1, lenJ, lenI, hlf, not_true_eq_false, not_false_eq_true, decide_true, decide_false, Bool.not_true, Bool.not_false, false_implies, true_implies, and_true, true_and, Bool.false_eq_true, Bool.true_eq_false, implies_true, Bool.not_not, Classical.not_not, go_sem, Int.reduceToNat, List.take_nil, Nat.zero_mul, Nat.reduceEqDiff, Nat.reduceAdd, Nat.reduceLT, Nat.reduceLeDiff, Nat.reduceMul, ↓reduceIte, reduceCtorEq]
      simp only [Bool.and_eq_true, decide_eq_true_eq]
      have hro : Rd encInt [.ro (encJob.row L), .ro (encInt.row (leftOf L done)), .rw ty_int (encInt.row (natsOf o)) cap] (.sl 2 0 k cap) (natsOf o) := by
        have e : k = (natsOf o).length := by omega
        rw [e]; exact Rd.own rfl
      have hmem := (idxF_mem (O := natsOf o) (x := (i : Int))).trans natsOf_mem
      have call : ∀ {K : AV → Prop}, K (.i .i64 (idxF (fun y => decide (y = (i : Int))) (natsOf o))) → onCall Try.prog n_spec_l4Index [.sl 2 0 k cap, .i .i64 (i : Int)] [.ro (encJob.row L), .ro (encInt.row (leftOf L done)), .rw ty_int (encInt.row (natsOf o)) cap] K := fun hK => onCall.by (spec_l4Index_ (L := natsOf o) (i : Int) (by omega) hro ⟨rfl, rfl⟩) hK
      generalize idxF (fun y => decide (y = (i : Int))) (natsOf o) = x at hmem call
      have hcap := hlf
      refine ⟨hl1, by omega, fun g1 => ⟨hl1, hl1, fun g2 => call ?_, fun g2 => ?_⟩, fun g1 => ?_⟩
      · simp only [not_true_eq_false, not_false_eq_true, decide_true, decide_false, Bool.not_true, Bool.not_false, false_implies, true_implies, and_true, true_and, Bool.false_eq_true, Bool.true_eq_false, implies_true, Bool.not_not, Classical.not_not, go_sem, Int.reduceToNat, List.take_nil, Nat.zero_mul, Nat.reduceEqDiff, Nat.reduceAdd, Nat.reduceLT, Nat.reduceLeDiff, Nat.reduceMul, ↓reduceIte, reduceCtorEq]
        refine ⟨fun g3 => ?_, fun g3 => ?_⟩
        · have hin : i ∉ o := fun h => by have := hmem.2 h; omega
          simp only [rdJ2 hl1, lenJ, not_true_eq_false, not_false_eq_true, decide_true, decide_false, Bool.not_true, Bool.not_false, false_implies, true_implies, and_true, true_and, Bool.false_eq_true, Bool.true_eq_false, implies_true, Bool.not_not, Classical.not_not, go_sem, Int.reduceToNat, List.take_nil, Nat.zero_mul, Nat.reduceEqDiff, Nat.reduceAdd, Nat.reduceLT, Nat.reduceLeDiff, Nat.reduceMul, ↓reduceIte, reduceCtorEq]
          refine ⟨fun g4 => ?_, fun g4 => ?_⟩
          · obtain ⟨nb, rfl⟩ := Int.eq_ofNat_of_zero_le (show 0 ≤ b by omega)
            have hnb : nb < L.length := by omega
            have eb : L.getD nb default = L[nb] := by simp [List.getD_eq_getElem?_getD, hnb]
            simp only [Int.toNat_natCast, rdJ2 hnb, eb, lenJ, not_true_eq_false, not_false_eq_true, decide_true, decide_false, Bool.not_true, Bool.not_false, false_implies, true_implies, and_true, true_and, Bool.false_eq_true, Bool.true_eq_false, implies_true, Bool.not_not, Classical.not_not, go_sem, Int.reduceToNat, List.take_nil, Nat.zero_mul, Nat.reduceEqDiff, Nat.reduceAdd, Nat.reduceLT, Nat.reduceLeDiff, Nat.reduceMul, ↓reduceIte, reduceCtorEq]
            refine ⟨by omega, by omega, by omega, by omega, fun g5 => ⟨by omega, hl1, ?_⟩, fun g5 => ⟨by omega, hl1, ?_⟩⟩
            · rw [if_pos ⟨⟨⟨g1, g2⟩, hin⟩, .inr g5⟩]; exact Wk.keep (by simp [look_cons, hlf])
            · rw [if_neg fun hh => hh.2.elim g4 g5]; exact Wk.keep (by simp [look_cons, hlf])
          · refine ⟨by omega, hl1, ?_⟩
            rw [if_pos ⟨⟨⟨g1, g2⟩, hin⟩, .inl g4⟩]; exact Wk.keep (by simp [look_cons, hlf])
        · have hin : i ∈ o := hmem.1 (by omega)
          refine ⟨by omega, hl1, ?_⟩
          rw [if_neg fun hh => hh.1.2 hin]; exact Wk.keep (by simp [look_cons, hlf])
      · refine ⟨by omega, hl1, ?_⟩
        rw [if_neg fun hh => g2 hh.1.1.2]; exact Wk.keep (by simp [look_cons, hlf])
      · refine ⟨by omega, hl1, ?_⟩
        rw [if_neg fun hh => g1 hh.1.1.1]; exact Wk.keep (by simp [look_cons, hlf])
    · have e : i = L.length := by omega
      subst e
      have hnx : bestF L.length ok (fun i => (L.getD i default).D) = gNext L now done o := by rw [← hok]; rfl
      rw [hnx]
      refine ⟨fun hneg => ?_, fun hpos => ?_⟩
      · have e : gSel L now done n = o := by rw [gSel_stop (by rw [hoo]; exact hneg) n (by omega), hoo]
        rw [e, hnl, ho]
        exact Fin.plain ⟨cap, rfl, rfl⟩
      · obtain ⟨nb, hnb⟩ := Int.eq_ofNat_of_zero_le (show 0 ≤ gNext L now done o by omega)
        have e : gSel L now done (k + 1) = o ++ [nb] := by
          rw [gSel_snoc (by rw [hoo]; exact hpos), hoo, hnb]; rfl
        have e2 : natsOf (gSel L now done (k + 1)) = natsOf o ++ [(nb : Int)] := by rw [e, natsOf_snoc]
        rw [hnb]
        have tk : List.take k (encInt.row (natsOf o)) = encInt.row (natsOf o) := List.take_of_length_le (by rw [lenI]; omega)
        refine ⟨⟨by rw [lenI]; omega, by omega, by omega⟩, fun cap' hc => ⟨(k + 1, cap'), ⟨⟨by simp only; omega, by simp only; rw [e, List.length_append, ho]; rfl⟩, by simp only; omega⟩, ?_⟩⟩
        simp only [e2]
        rw [tk, appI]
        exact Wk.pick [0, 1, 4]
  · have e : k = n := by omega
    subst e
    rw [hnl, ho]
    exact Fin.plain ⟨cap, rfl, rfl⟩
theorem spec_l14Pick_ {L : List Job} {done : List Int} {now n : Nat} (hn : now ≤ 1000) (hnn : n ≤ 1000) (hl : L.length ≤ 1000) (hd : done.length = L.length) {v u : AV} {σ : List AB} (h : Rd encJob σ v L) (h' : Rd encInt σ u (leftOf L done)) {K : AV → List AB → Prop}
    (hk : ∀ cap, K (.sl σ.length 0 (natsOf (gSel L now done n)).length cap) (σ ++ [.rw ty_int (encInt.row (natsOf (gSel L now done n))) (cap * 1)])) : CallWp Try.prog n_spec_l14Pick [v, u, .i .i64 now, .i .i64 n] σ K :=
  call_new _ (rds_cons h.r (rds1 h'.r)) (fun c => [.sl 0 0 L.length (c 0), .sl 1 0 (leftOf L done).length (c 1), .i .i64 now, .i .i64 n]) (fun c => spec_l14Pick0 L done now n hn hnn hl hd (c 0) (c 1)) (fun ν c h => ⟨h.1, h.2.1, .inl rfl, .inl rfl, trivial⟩) (fun _ => rfl) (encInt.row_flat _) hk
end Go.Proofs.Ytmphblbpofnpaaa
/- Contracts: global earliest deadline first, of the reference: what a run holds in memory. -/
namespace Go.Proofs.Ytmphblbpofnpaaa
open Go.Abs Go.Ds
set_option linter.unusedSimpArgs false
set_option linter.unusedVariables false
set_option maxRecDepth 20000
set_option maxHeartbeats 2000000
structure QS where
  lf : List Int
  fin : List Int
  R : List (List Int)
  n : Nat
def vN (p c : Nat → Nat) (i n : Nat) : AV := if n = 0 then .sn else .sl (p i) 0 n (c i)
def runC (p c : Nat → Nat) (R : List (List Int)) (n : Nat) : List AV := (List.range n).map fun k => .sl (p (k + 4)) 0 (gRw R k).length (c (k + 4))
def SB (q : QS) (p c : Nat → Nat) : Nat → Option AB
  | 0 => some (.rw ty_int (encInt.row q.lf) (c 0 * 1))
  | 1 => none
  | 2 => if q.n = 0 then none else some (.rw ty_sl_int (runC p c q.R q.n) (c 2 * 1))
  | 3 => if q.fin = [] then none else some (.rw ty_int (encInt.row q.fin) (c 3 * 1))
  | k + 4 => if k < q.R.length then some (.rw ty_int (encInt.row (gRw q.R k)) (c (k + 4) * 1)) else none
def outS (q : QS) (p c : Nat → Nat) : List AV := [vN p c 2 q.n, vN p c 3 q.fin.length]
structure GS (σ : List AB) (q : QS) (H : List AB) (p c : Nat → Nat) : Prop where
  base : Base σ H 2
  res : H[σ.length]? = some (.rw ty_impl_GlobalRun [.sn, .sn] 2)
  out : H[σ.length + 1]? = some (.rw ty_impl_GlobalRun (outS q p c) 2)
  lay : Lay (σ.length + 2) H p (SB q p c)
section
variable {σ H : List AB} {q q' : QS} {p c : Nat → Nat}
theorem GS.junk (h : GS σ q H p c) (τ : List AB) : GS σ q (H ++ τ) p c := ⟨h.base.app τ, at_old h.res τ, at_old h.out τ, h.lay.junk τ⟩
theorem GS.upd (h : GS σ q H p c) {i : Nat} {b b' : AB} (hi : SB q p c i = some b) (ho : outS q' p c = outS q p c) (hB : ∀ k x, SB q' p c k = some x → up (SB q p c) i (some b') k = some x) : GS σ q' (H.set (p i) b') p c := by
  have hg := h.lay.ge hi
  exact ⟨h.base.set (by omega) _, by rw [List.getElem?_set_ne (by omega)]; exact h.res, by rw [List.getElem?_set_ne (by omega), ho]; exact h.out, h.lay.upd hi b' hB⟩
/-- A heap whose labelled part is right; what is answered is then written. -/
structure GS0 (σ : List AB) (q : QS) (H : List AB) (p c : Nat → Nat) : Prop where
  base : Base σ H 2
  res : H[σ.length]? = some (.rw ty_impl_GlobalRun [.sn, .sn] 2)
  out : ∃ cs, H[σ.length + 1]? = some (.rw ty_impl_GlobalRun cs 2)
  lay : Lay (σ.length + 2) H p (SB q p c)
theorem GS0.same (h : GS0 σ q H p c) (ho : H[σ.length + 1]? = some (.rw ty_impl_GlobalRun (outS q p c) 2)) : GS σ q H p c := ⟨h.base, h.res, ho, h.lay⟩
theorem GS0.put (h : GS0 σ q H p c) : GS σ q (H.set (σ.length + 1) (.rw ty_impl_GlobalRun (outS q p c) 2)) p c :=
  ⟨h.base.set (by omega) _, by rw [List.getElem?_set_ne (by omega)]; exact h.res, List.getElem?_set_self (by have := h.base.2; omega), h.lay.low (by omega) _⟩
theorem GS.grow (h : GS σ q H p c) {i : Nat} {b : AB} (hi : SB q p c i = some b) (τ : List AB) (new : AB) {n : Nat} {c' : Nat → Nat} (hn : n = H.length + τ.length) (hB : ∀ k x, SB q' (up p i n) c' k = some x → up (SB q p c) i (some new) k = some x) :
    GS0 σ q' ((H ++ τ).set (p i) .dead ++ [new]) (up p i n) c' ∧ ((H ++ τ).set (p i) .dead ++ [new])[σ.length + 1]? = some (.rw ty_impl_GlobalRun (outS q p c) 2) := by
  have hg := h.lay.ge hi
  have e : ((H ++ τ).set (p i) .dead ++ [new])[σ.length + 1]? = some (.rw ty_impl_GlobalRun (outS q p c) 2) := by
    refine at_old ?_ _
    rw [List.getElem?_set_ne (by omega)]; exact at_old h.out τ
  refine ⟨⟨((h.base.app τ).set (by omega) _).app _, at_old ?_ _, ⟨_, e⟩, h.lay.grow h.base.2 hi τ new hn hB⟩, e⟩
  rw [List.getElem?_set_ne (by omega)]; exact at_old h.res τ
theorem GS.born (h : GS σ q H p c) {i : Nat} (hi : SB q p c i = none) (τ : List AB) (new : AB) {n : Nat} {c' : Nat → Nat} (hn : n = H.length + τ.length) (hB : ∀ k x, SB q' (up p i n) c' k = some x → up (SB q p c) i (some new) k = some x) :
    GS0 σ q' ((H ++ τ) ++ [new]) (up p i n) c' ∧ ((H ++ τ) ++ [new])[σ.length + 1]? = some (.rw ty_impl_GlobalRun (outS q p c) 2) :=
  ⟨⟨(h.base.app τ).app _, at_old (at_old h.res τ) _, ⟨_, at_old (at_old h.out τ) _⟩, h.lay.born h.base.2 hi τ new hn hB⟩, at_old (at_old h.out τ) _⟩
theorem vN_up (p c : Nat → Nat) {i j : Nat} (n a b : Nat) (h : j ≠ i) : vN (up p i a) (up c i b) j n = vN p c j n := by unfold vN; rw [up_ne _ _ h, up_ne _ _ h]
theorem runC_congr {p p' c c' : Nat → Nat} {R R' : List (List Int)} {n : Nat} (h : ∀ k, k < n → p' (k + 4) = p (k + 4) ∧ c' (k + 4) = c (k + 4) ∧ (gRw R' k).length = (gRw R k).length) : runC p' c' R' n = runC p c R n :=
  List.map_congr_left fun k hk => by
    obtain ⟨h1, h2, h3⟩ := h k (List.mem_range.1 hk)
    rw [h1, h2, h3]
theorem runC_succ (p c : Nat → Nat) (R : List (List Int)) (n : Nat) : runC p c R (n + 1) = runC p c R n ++ [.sl (p (n + 4)) 0 (gRw R n).length (c (n + 4))] := by unfold runC; rw [List.range_succ, List.map_append]; rfl
theorem runC_len (p c : Nat → Nat) (R : List (List Int)) (n : Nat) : (runC p c R n).length = n := by simp [runC]
theorem GS.b0 (h : GS σ q H p c) : H[p 0]? = some (.rw ty_int (encInt.row q.lf) (c 0 * 1)) := h.lay.at (i := 0) rfl
theorem GS.b2 (h : GS σ q H p c) (hn : q.n ≠ 0) : H[p 2]? = some (.rw ty_sl_int (runC p c q.R q.n) (c 2 * 1)) := h.lay.at (i := 2) (if_neg hn)
theorem GS.b3 (h : GS σ q H p c) (hn : q.fin ≠ []) : H[p 3]? = some (.rw ty_int (encInt.row q.fin) (c 3 * 1)) := h.lay.at (i := 3) (if_neg hn)
theorem GS.bR (h : GS σ q H p c) {k : Nat} (hk : k < q.R.length) : H[p (k + 4)]? = some (.rw ty_int (encInt.row (gRw q.R k)) (c (k + 4) * 1)) := h.lay.at (i := k + 4) (if_pos hk)
theorem GS.setLf (h : GS σ q H p c) (l : List Int) : GS σ { q with lf := l } (H.set (p 0) (.rw ty_int (encInt.row l) (c 0 * 1))) p c := by
  refine h.upd (i := 0) rfl rfl fun k x hk => ?_
  by_cases e : k = 0
  · subst e; rw [up_eq]; exact hk
  · rw [up_ne _ _ e, ← hk]
    unfold SB
    split <;> first | rfl | exact absurd rfl e
theorem GS.setFin (h : GS σ q H p c) (hn : q.fin ≠ []) (l : List Int) (hl : l.length = q.fin.length) : GS σ { q with fin := l } (H.set (p 3) (.rw ty_int (encInt.row l) (c 3 * 1))) p c := by
  have hne2 : l ≠ [] := fun e => hn (List.eq_nil_of_length_eq_zero (by rw [← hl, e]; rfl))
  refine h.upd (i := 3) (if_neg hn) (by simp [outS, hl]) fun k x hk => ?_
  by_cases e : k = 3
  · subst e; rw [up_eq]; simpa [SB, hne2] using hk
  · rw [up_ne _ _ e, ← hk]
    unfold SB
    split <;> first | rfl | exact absurd rfl e
theorem SB_up {i k : Nat} (hi : i < 4) (hk : k ≠ i) (a b : Nat) : SB q (up p i a) (up c i b) k = SB q p c k := by
  match k with
  | 0 | 1 | 3 => simp only [SB, up_ne _ _ hk]
  | 2 =>
    have : runC (up p i a) (up c i b) q.R q.n = runC p c q.R q.n := runC_congr fun k _ => ⟨up_ne _ _ (by omega), up_ne _ _ (by omega), rfl⟩
    simp only [SB, up_ne _ _ hk, this]
  | k + 4 => simp only [SB, up_ne _ _ hk]
theorem GS.lf1 (h : GS σ q H p c) (l : List Int) (one : AB) (cap : Nat) : GS σ { q with lf := l } ((H ++ [one]).set (p 0) .dead ++ [.rw ty_int (encInt.row l) (cap * 1)]) (up p 0 (H.length + 1)) (up c 0 cap) := by
  obtain ⟨h1, h2⟩ := h.grow (i := 0) (q' := { q with lf := l }) (c' := up c 0 cap) rfl [one] (.rw ty_int (encInt.row l) (cap * 1)) rfl fun k x hk => by
    by_cases e : k = 0
    · subst e; rw [up_eq]; simpa [SB, up_eq] using hk
    · rw [up_ne _ _ e, ← SB_up (by decide) e (H.length + 1) cap, ← hk]
      unfold SB
      split <;> first | rfl | exact absurd rfl e
  refine h1.same ?_
  rw [h2]
  unfold outS
  rw [vN_up p c _ _ _ (by decide), vN_up p c _ _ _ (by decide)]
theorem hB_finS {l : List Int} (hl : l ≠ []) (n cap : Nat) : ∀ k x, SB { q with fin := l } (up p 3 n) (up c 3 cap) k = some x → up (SB q p c) 3 (some (.rw ty_int (encInt.row l) (cap * 1))) k = some x := fun k x hk => by
  by_cases e : k = 3
  · subst e; rw [up_eq]
    simpa [SB, hl, up_eq] using hk
  · rw [up_ne _ _ e, ← SB_up (by decide) e n cap, ← hk]
    unfold SB
    split <;> first | rfl | exact absurd rfl e
theorem GS.fin0 (h : GS σ q H p c) (hq : q.fin = []) (l : List Int) (hl : l ≠ []) (one : AB) (cap : Nat) {cs : List AV} (hcs : outS { q with fin := l } (up p 3 (H.length + 1)) (up c 3 cap) = cs) :
    GS σ { q with fin := l } (((H ++ [one]) ++ [AB.rw ty_int (encInt.row l) (cap * 1)]).set (σ.length + 1) (.rw ty_impl_GlobalRun cs 2)) (up p 3 (H.length + 1)) (up c 3 cap) := by
  subst hcs
  exact (h.born (i := 3) (if_pos hq) [one] (.rw ty_int (encInt.row l) (cap * 1)) rfl (hB_finS hl _ _)).1.put
theorem GS.fin1 (h : GS σ q H p c) (hq : q.fin ≠ []) (l : List Int) (hl : l ≠ []) (one : AB) (cap : Nat) {cs : List AV} (hcs : outS { q with fin := l } (up p 3 (H.length + 1)) (up c 3 cap) = cs) :
    GS σ { q with fin := l } (((H ++ [one]).set (p 3) .dead ++ [AB.rw ty_int (encInt.row l) (cap * 1)]).set (σ.length + 1) (.rw ty_impl_GlobalRun cs 2)) (up p 3 (H.length + 1)) (up c 3 cap) := by
  subst hcs
  exact (h.grow (i := 3) (if_neg hq) [one] (.rw ty_int (encInt.row l) (cap * 1)) rfl (hB_finS hl _ _)).1.put
theorem hB_runS (n cap : Nat) : ∀ k x, SB { q with n := q.n + 1 } (up p 2 n) (up c 2 cap) k = some x → up (SB q p c) 2 (some (.rw ty_sl_int (runC p c q.R (q.n + 1)) (cap * 1))) k = some x := fun k x hk => by
  by_cases e : k = 2
  · subst e; rw [up_eq]
    have e1 : runC (up p 2 n) (up c 2 cap) q.R (q.n + 1) = runC p c q.R (q.n + 1) := runC_congr fun k _ => ⟨up_ne _ _ (by omega), up_ne _ _ (by omega), rfl⟩
    simpa [SB, up_eq, e1] using hk
  · rw [up_ne _ _ e, ← SB_up (by decide) e n cap, ← hk]
    unfold SB
    split <;> first | rfl | exact absurd rfl e
theorem GS.run0 (h : GS σ q H p c) (hq : q.n = 0) (one : AB) (cap : Nat) {cs : List AV} (hcs : outS { q with n := q.n + 1 } (up p 2 (H.length + 1)) (up c 2 cap) = cs) :
    GS σ { q with n := q.n + 1 } (((H ++ [one]) ++ [AB.rw ty_sl_int (runC p c q.R (q.n + 1)) (cap * 1)]).set (σ.length + 1) (.rw ty_impl_GlobalRun cs 2)) (up p 2 (H.length + 1)) (up c 2 cap) := by
  subst hcs
  exact (h.born (i := 2) (if_pos hq) [one] _ rfl (hB_runS _ _)).1.put
theorem GS.run1 (h : GS σ q H p c) (hq : q.n ≠ 0) (one : AB) (cap : Nat) {cs : List AV} (hcs : outS { q with n := q.n + 1 } (up p 2 (H.length + 1)) (up c 2 cap) = cs) :
    GS σ { q with n := q.n + 1 } (((H ++ [one]).set (p 2) .dead ++ [AB.rw ty_sl_int (runC p c q.R (q.n + 1)) (cap * 1)]).set (σ.length + 1) (.rw ty_impl_GlobalRun cs 2)) (up p 2 (H.length + 1)) (up c 2 cap) := by
  subst hcs
  exact (h.grow (i := 2) (if_neg hq) [one] _ rfl (hB_runS _ _)).1.put
theorem GS.row (h : GS σ q H p c) (hn : q.n ≤ q.R.length) (r : List Int) (cap : Nat) : GS σ { q with R := q.R ++ [r] } (H ++ [.rw ty_int (encInt.row r) (cap * 1)]) (up p (q.R.length + 4) H.length) (up c (q.R.length + 4) cap) := by
  have hb := h.born (i := q.R.length + 4) (q' := { q with R := q.R ++ [r] }) (c' := up c (q.R.length + 4) cap) (if_neg (Nat.lt_irrefl _)) [] (.rw ty_int (encInt.row r) (cap * 1)) (n := H.length) (by simp) fun k x hk => by
    by_cases e : k = q.R.length + 4
    · subst e; rw [up_eq]
      simpa [SB, gRw_new, up_eq] using hk
    · rw [up_ne _ _ e, ← hk]
      match k, e with
      | 0, e | 1, e | 3, e => simp only [SB, up_ne _ _ e]
      | 2, e =>
        have : runC (up p (q.R.length + 4) H.length) (up c (q.R.length + 4) cap) (q.R ++ [r]) q.n = runC p c q.R q.n := runC_congr fun k hk => ⟨up_ne _ _ (by omega), up_ne _ _ (by omega), by rw [gRw_old (by omega)]⟩
        simp only [SB, up_ne _ _ e, this]
      | k + 4, e =>
        have hk : k ≠ q.R.length := fun g => e (by rw [g])
        by_cases h1 : k < q.R.length
        · have h2 : k < (q.R ++ [r]).length := by rw [List.length_append]; omega
          simp only [SB, h1, h2, if_true, up_ne _ _ e, gRw_old h1]
        · have h2 : ¬ k < (q.R ++ [r]).length := by rw [List.length_append, List.length_cons, List.length_nil]; omega
          simp only [SB, h1, h2, if_false]
  rw [List.append_nil] at hb
  refine hb.1.same ?_
  rw [hb.2]
  unfold outS
  rw [vN_up p c _ _ _ (by omega), vN_up p c _ _ _ (by omega)]
end
end Go.Proofs.Ytmphblbpofnpaaa
/- Contracts: RunGlobal of the reference. -/
namespace Go.Proofs.Ytmphblbpofnpaaa
open Go.Abs Go.Ds
set_option linter.unusedSimpArgs false
set_option linter.unusedVariables false
set_option maxRecDepth 20000
set_option maxHeartbeats 8000000
def qS (L : List Job) (m t : Nat) : QS := ⟨leftOf L (gSt L m t).done, (gSt L m t).fin, (List.range t).map (fun k => natsOf (gRow L m k)), t⟩
def qS0 (L : List Job) (k : Nat) : QS := ⟨(L.take k).map Job.E, List.replicate k (-1), [], 0⟩
theorem qS0_all (L : List Job) (m : Nat) : qS0 L L.length = qS L m 0 := by
  unfold qS0 qS
  rw [List.take_length]
  have : leftOf L (gSt L m 0).done = L.map Job.E := leftOf_zero L
  rw [this]; rfl
def keep2 (j jo jc n M N : Nat) (p c : Nat → Nat) (k : Nat) : List (Nat × AV) := [(1, .sl j jo n jc), (2, .i .i64 M), (6, .p N 0), (7, .p (N + 1) 0), (8, .sl (p 0) 0 k (c 0)), (9, .i .i64 k)]
theorem gs_start {L : List Job} {σ : List AB} (τ : List AB) (e0 : τ[0]? = some (.rw ty_impl_GlobalRun [.sn, .sn] 2)) (e1 : τ[1]? = some (.rw ty_impl_GlobalRun [.sn, .sn] 2)) (e2 : τ[2]? = some (.rw ty_int [] 0)) : GS σ (qS0 L 0) (σ ++ τ) (fun _ => σ.length + 2) (fun _ => 0) := by
  refine ⟨⟨fun m hm => List.getElem?_append_left hm, ?_⟩, by rw [at_new0]; exact e0, by rw [at_new]; exact e1, fun k b hk => ?_, fun k k' b b' hk hk' e => ?_⟩
  · have := (List.getElem?_eq_some_iff.1 e1).1
    rw [List.length_append]; omega
  · match k, hk with
    | 0, hk => cases hk; exact ⟨Nat.le_refl _, by rw [at_new]; exact e2⟩
    | 1, hk | 2, hk | 3, hk => cases hk
    | k + 4, hk => simp [SB, qS0] at hk
  · have key : ∀ {k b}, SB (qS0 L 0) (fun _ => σ.length + 2) (fun _ => 0) k = some b → k = 0 := fun {k b} hk => by
      match k, hk with
      | 0, _ => rfl
      | 1, hk | 2, hk | 3, hk => cases hk
      | k + 4, hk => simp [SB, qS0] at hk
    rw [key hk, key hk']
def keep3 (j jo jc n M N : Nat) (p c : Nat → Nat) (t : Nat) : List (Nat × AV) := [(1, .sl j jo n jc), (2, .i .i64 M), (6, .p N 0), (7, .p (N + 1) 0), (8, .sl (p 0) 0 n (c 0)), (10, .i .i64 t)]
theorem vN_rd {N : Nat} {H : List AB} {q : QS} {p c : Nat → Nat} {i n : Nat} {l : List Int} (hl : l.length = n) (hL : Lay N H p (SB q p c)) (hB : SB q p c i = if l = [] then none else some (.rw ty_int (encInt.row l) (c i * 1))) (h0 : 0 < H.length) : Rd encInt H (vN p c i n) l := by
  unfold vN
  split
  · rename_i h; exact .inr ⟨rfl, List.eq_nil_of_length_eq_zero (by omega), h0⟩
  · rename_i h
    have hne : l ≠ [] := fun e => h (by rw [← hl, e]; rfl)
    rw [if_neg hne] at hB
    subst hl
    exact Rd.own (cells_rwG (hL.at hB))
theorem globS_final {L : List Job} {M : Nat} {σ H : List AB} {p c : Nat → Nat} (hF : GS σ (qS L M 120) H p c) (b : AB) : GlobAnsN σ.length (H.set σ.length b) (.agg [.sl (p 2) 0 120 (c 2), vN p c 3 L.length]) (gRows L M) (gFin L M) := by
  intro σ9 hl9 hs9
  have hL0 := hF.lay.low (n := σ.length) (by omega) b
  have hL : Lay (σ.length + 2) σ9 p (SB (qS L M 120) p c) := ⟨fun i b hi => ⟨hL0.ge hi, by rw [hs9 _ (by have := hL0.ge hi; omega)]; exact hL0.at hi⟩, hL0.2⟩
  have h0 : 0 < σ9.length := by rw [hl9, List.length_set]; have := hF.base.2; omega
  have hlen := gSt_len L M 120
  refine ⟨_, _, rfl, .inl ⟨p 2, 0, c 2, _, by rw [gRows_len], cells_rwG (hL.at (i := 2) rfl), by rw [gRows_len, runC_len]; simp [qS], fun k hk => ?_⟩, vN_rd hlen.2 hL rfl h0⟩
  rw [gRows_len] at hk
  have e1 : (gRows L M)[k]'(by rw [gRows_len]; exact hk) = natsOf (gRow L M k) := by simp [gRows]
  have e3 : gRw (qS L M 120).R k = natsOf (gRow L M k) := by simp [gRw, qS, List.getD_eq_getElem?_getD, hk]
  have e2 : rd (runC p c (qS L M 120).R (qS L M 120).n) (0 + k) = .sl (p (k + 4)) 0 (gRw (qS L M 120).R k).length (c (k + 4)) := by simp [runC, rd, qS, hk]
  rw [e1, e2, e3]
  have hk2 : k < (qS L M 120).R.length := by simp [qS, hk]
  have := hL.at (i := k + 4) (if_pos hk2)
  rw [e3] at this
  exact Rd.own (cells_rwG this)
theorem rs_run {L : List Job} {σ H : List AB} {q : QS} {p c : Nat → Nat} {j jo jc M t : Nat} {o : List Nat} {s : GSt} {L0 : Nat} {Q : Exit → St → Prop} {T : List (Nat × AV)} (hl : L.length ≤ 1000) (ht : t ≤ 1000) (hE : ∀ i : Nat, i < L.length → -1000000 ≤ gI (leftOf L s.done) i - o.length ∧ gI (leftOf L s.done) i ≤ 1000000) (ho : ∀ i ∈ o, i < L.length) (hol : o.length ≤ 1000) (hnd : o.Nodup)
    (h1 : s.done.length = L.length) (h2 : s.fin.length = L.length) (hq1 : q.lf = leftOf L s.done) (hq2 : q.fin = s.fin) (hR : q.n < q.R.length) (hRn : gRw q.R q.n = natsOf o) (hF : GS σ q H p c)
    (hT : ∀ x ∈ keep3 j jo jc L.length M σ.length p c t ++ [(11, .sl (p (q.n + 4)) 0 o.length (c (q.n + 4))), (12, .i .i64 0)], Abs.look T x.1 = x.2)
    (hk : ∀ T' H', (∀ x ∈ keep3 j jo jc L.length M σ.length p c t ++ [(11, .sl (p (q.n + 4)) 0 o.length (c (q.n + 4)))], Abs.look T' x.1 = x.2) → GS σ { q with lf := leftOf L (gDo L t o s).done, fin := (gDo L t o s).fin } H' p c → Q (.exit 4) ⟨T', H'⟩) :
    wpC Try.prog L0 90 (.loop l0_spec_RunGlobal) Q ⟨T, H⟩ := by
  refine loop_intro (fun i : Nat × List AB => ⟨keep3 j jo jc L.length M σ.length p c t ++ [(11, .sl (p (q.n + 4)) 0 o.length (c (q.n + 4))), (12, .i .i64 i.1)], i.2⟩)
    (fun i => i.1 ≤ o.length ∧ GS σ { q with lf := leftOf L (gDo L t (o.take i.1) s).done, fin := (gDo L t (o.take i.1) s).fin } i.2 p c) (fun i => o.length - i.1) (0, H) ⟨Nat.zero_le _, by
      rw [List.take_zero]
      have : q = { q with lf := leftOf L (gDo L t [] s).done, fin := (gDo L t [] s).fin } := by
        cases q; simp only at hq1 hq2; subst hq1 hq2; rfl
      rw [← this]; exact hF⟩ (Wk.keep hT) ?_
  rintro ⟨k, H1⟩ ⟨hk1, hF1⟩
  simp only at hk1 hF1
  simp only [l0_spec_RunGlobal, keep3, List.cons_append, List.nil_append, not_true_eq_false, not_false_eq_true, decide_true, decide_false, Bool.not_true, Bool.not_false, false_implies, true_implies, and_true, true_and, Bool.false_eq_true, Bool.true_eq_false, implies_true, Bool.not_not, Classical.not_not, go_sem, Int.reduceToNat, List.take_nil, Nat.zero_mul, Nat.reduceEqDiff, Nat.reduceAdd, Nat.reduceLT, Nat.reduceLeDiff, Nat.reduceMul, ↓reduceIte, reduceCtorEq]
  refine ⟨fun hlt => ?_, fun hge => ?_⟩
  · have hok := ho _ (List.getElem_mem hlt)
    have hlen := gDo_len (L := L) (now := t) (o.take k) s
    have hsn : gDo L t (o.take k ++ [o[k]]) s = gDo1 L t (gDo L t (o.take k) s) o[k] := by unfold gDo; rw [List.foldl_append]; rfl
    rw [← List.take_succ_eq_append_getElem hlt] at hsn
    have hnk : (o.take k).Nodup := hnd.sublist (List.take_sublist ..)
    have hnin : o[k] ∉ o.take k := fun hm => by
      obtain ⟨r, hr, e⟩ := List.getElem_of_mem hm
      rw [List.length_take] at hr
      rw [List.getElem_take] at e
      exact List.pairwise_iff_getElem.1 hnd r k (by omega) hlt (by omega) e
    have hgd := (gDo_get (L := L) (now := t) (s := s) hnk (fun i hi => by have := ho i (List.mem_of_mem_take hi); omega) o[k]).1
    rw [if_neg hnin, Int.add_zero] at hgd
    have hb1 := hE o[k] hok
    rw [leftOf_gI L s.done o[k] hok, ← hgd, ← leftOf_gI L _ o[k] hok] at hb1
    generalize gDo L t (o.take k) s = s1 at hF1 hlen hsn hgd hb1
    have d0 := leftOf_length L s1.done
    have d1 : o[k] < (leftOf L s1.done).length := by omega
    have d2 : o[k] < s1.fin.length := by omega
    have gl : gI (leftOf L s1.done) o[k] = (leftOf L s1.done)[o[k]] := by simp [gI, List.getD_eq_getElem?_getD, d1]
    have gL := leftOf_gI L s1.done o[k] hok
    have hls := leftOf_set L s1.done o[k] hok (by omega)
    rw [gl] at hls gL hb1
    have hns : ∀ v, o[k] < ((leftOf L s1.done).set o[k] v).length := fun v => by rw [List.length_set]; exact d1
    have gs : ((leftOf L s1.done).set o[k] ((leftOf L s1.done)[o[k]] - 1))[o[k]]'(hns _) = (leftOf L s1.done)[o[k]] - 1 := List.getElem_set_self ..
    have c0 := hF1.b0
    have cR := hF1.bR (k := q.n) hR
    simp only at c0 cR
    rw [hRn] at cR
    have rk : rd (encInt.row (natsOf o)) k = .i .i64 (o[k] : Nat) := by
      have hkl : k < (natsOf o).length := by rw [natsOf_len]; exact hlt
      rw [rdI hkl, natsOf_get hkl]
    have lN : (natsOf o).length = o.length := natsOf_len o
    have hF2 := hF1.setLf ((leftOf L s1.done).set o[k] ((leftOf L s1.done)[o[k]] - 1))
    simp only [Nat.mul_one] at hF2
    have e0 := hF2.b0
    have hfne : s1.fin ≠ [] := fun e => by rw [e] at d2; exact absurd d2 (Nat.not_lt_zero _)
    have e3 := hF2.b3 hfne
    have eo := hF2.out
    simp only at e0 e3 eo
    have hfl : s1.fin.length ≠ 0 := by omega
    have hos : outS { lf := (leftOf L s1.done).set o[k] ((leftOf L s1.done)[o[k]] - 1), fin := s1.fin, R := q.R, n := q.n } p c = [vN p c 2 q.n, .sl (p 3) 0 s1.fin.length (c 3)] := by simp [outS, vN, hfl]
    rw [hos] at eo
    simp only [c0, cR, rk, lN, lenI, rdI d1, splI d1, e0, e3, eo, rdI (hns _), gs, List.length_set, d0, splI d2, not_true_eq_false, not_false_eq_true, decide_true, decide_false, Bool.not_true, Bool.not_false, false_implies, true_implies, and_true, true_and, Bool.false_eq_true, Bool.true_eq_false, implies_true, Bool.not_not, Classical.not_not, go_sem, Int.reduceToNat, List.take_nil, Nat.zero_mul, Nat.reduceEqDiff, Nat.reduceAdd, Nat.reduceLT, Nat.reduceLeDiff, Nat.reduceMul, ↓reduceIte, reduceCtorEq]
    have hlL : s1.done.length = L.length := by omega
    have gd1 : gI s1.done o[k] = L[o[k]].E - (leftOf L s1.done)[o[k]] := by
      have gLo : L.getD o[k] default = L[o[k]] := by simp [List.getD_eq_getElem?_getD, hok]
      rw [gLo] at gL; omega
    have gLo : L.getD o[k] default = L[o[k]] := by simp [List.getD_eq_getElem?_getD, hok]
    refine ⟨hlt, by omega, by omega, by omega, by omega, by omega, by omega, by omega, by omega, fun he => ?_, fun he => ?_⟩
    · have hF3 := hF2.setFin hfne (s1.fin.set o[k] ((t : Int) + 1)) (List.length_set ..)
      simp only [Nat.mul_one] at hF3
      refine ⟨by omega, by omega, by omega, by omega, (k + 1, _), ⟨⟨by simp only; omega, ?_⟩, by simp only; omega⟩, Wk.keep ?_⟩
      rotate_left
      · intro x hx
        simp only [List.mem_cons, List.not_mem_nil, or_false] at hx
        rcases hx with rfl | rfl | rfl | rfl | rfl | rfl | rfl | rfl <;> simp [look_cons]
      · simp only [hsn]
        unfold gDo1
        simp only [gLo, hls]
        rw [if_pos (by omega)]
        exact hF3
    · refine ⟨by omega, (k + 1, _), ⟨⟨by simp only; omega, ?_⟩, by simp only; omega⟩, Wk.keep ?_⟩
      rotate_left
      · intro x hx
        simp only [List.mem_cons, List.not_mem_nil, or_false] at hx
        rcases hx with rfl | rfl | rfl | rfl | rfl | rfl | rfl | rfl <;> simp [look_cons]
      · simp only [hsn]
        unfold gDo1
        simp only [gLo, hls]
        rw [if_neg (by omega)]
        exact hF2
  · have e : k = o.length := by omega
    subst e
    rw [List.take_length] at hF1
    refine hk _ _ ?_ hF1
    intro x hx
    simp only [keep3, List.mem_cons, List.not_mem_nil, or_false, List.cons_append, List.nil_append] at hx
    rcases hx with rfl | rfl | rfl | rfl | rfl | rfl | rfl <;> simp [look_cons]
theorem spec_RunGlobal_ {σ : List AB} {S : List Task} {L : List Job} {v : AV} {j jo jc : Nat} {m : Int} {K : AV → List AB → Prop} (hs : S.length ≤ 1000000) (hl : L.length ≤ 1000) (hS : Rd encTask σ v S) (hv : Rd encJob σ (.sl j jo L.length jc) L)
    (hn : ¬ globOk S L m → ∀ τ, K (.agg [.sn, .sn]) (σ ++ τ)) (hy : ∀ M : Nat, m = M → globOk S L m → ∀ τ x, GlobAnsN σ.length (σ ++ τ) x (gRows L M) (gFin L M) → K x (σ ++ τ)) :
    CallWp Try.prog n_spec_RunGlobal [v, .sl j jo L.length jc, .i .i64 m] σ K := by
  obtain ⟨jcs, hjc, hjl, hjw⟩ : ∃ jcs : List AV, cellsOf σ j = some jcs ∧ jo + L.length * encJob.k ≤ jcs.length ∧ win jcs jo (L.length * encJob.k) = encJob.row L := by
    rcases hv with ⟨n, o, cap, cs, e, _, h⟩ | ⟨e, _⟩
    · cases e; exact ⟨cs, h⟩
    · cases e
  refine call_spec_RunGlobal (by simp) ?_
  simp only [c_spec_RunGlobal, hS.data, at_new, at_new0, List.append_assoc, List.cons_append, List.nil_append, not_true_eq_false, not_false_eq_true, decide_true, decide_false, Bool.not_true, Bool.not_false, false_implies, true_implies, and_true, true_and, Bool.false_eq_true, Bool.true_eq_false, implies_true, Bool.not_not, Classical.not_not, go_sem, Int.reduceToNat, List.take_nil, Nat.zero_mul, Nat.reduceEqDiff, Nat.reduceAdd, Nat.reduceLT, Nat.reduceLeDiff, Nat.reduceMul, ↓reduceIte, reduceCtorEq]
  refine spec_JobsLegal_ (S := S) (L := L) (by omega) (by omega) hS.app hv.app ?_
  simp only [at_new, at_new0, set_new, set_new0, List.append_assoc, List.cons_append, List.nil_append, not_true_eq_false, not_false_eq_true, decide_true, decide_false, Bool.not_true, Bool.not_false, false_implies, true_implies, and_true, true_and, Bool.false_eq_true, Bool.true_eq_false, implies_true, Bool.not_not, Classical.not_not, go_sem, Int.reduceToNat, List.take_nil, Nat.zero_mul, Nat.reduceEqDiff, Nat.reduceAdd, Nat.reduceLT, Nat.reduceLeDiff, Nat.reduceMul, ↓reduceIte, reduceCtorEq]
  have no : ¬ globOk S L m → ∀ τ, Fin σ.length (σ ++ τ) (.agg [.sn, .sn]) K := fun h τ => Fin.plain (hn h τ)
  refine ⟨fun h1 => ?_, fun h1 => no (fun h => h1 h.1) _⟩
  refine spec_l1In_ _ _ _ ?_
  simp only [at_new, at_new0, set_new, set_new0, List.append_assoc, List.cons_append, List.nil_append, not_true_eq_false, not_false_eq_true, decide_true, decide_false, Bool.not_true, Bool.not_false, false_implies, true_implies, and_true, true_and, Bool.false_eq_true, Bool.true_eq_false, implies_true, Bool.not_not, Classical.not_not, go_sem, Int.reduceToNat, List.take_nil, Nat.zero_mul, Nat.reduceEqDiff, Nat.reduceAdd, Nat.reduceLT, Nat.reduceLeDiff, Nat.reduceMul, ↓reduceIte, reduceCtorEq]
  refine ⟨fun h2 => no (fun h => h2 h.2) _, fun h2 => ?_⟩
  have hok : globOk S L m := ⟨h1, h2⟩
  obtain ⟨M, rfl⟩ := Int.eq_ofNat_of_zero_le (show 0 ≤ m by omega)
  have h60 : L.length ≤ 60 := h1.2.1.1
  have hE : ∀ i : Nat, i < L.length → 0 ≤ (L.getD i default).E ∧ (L.getD i default).E ≤ 1000 := fun i hi => by
    have hm := h1.2.1.mem (getD_mem hi)
    have hc : costOf S (L.getD i default).T ≤ 12 := by
      have := gT_ok h1.1 hm.1.1 hm.1.2
      unfold Task.ok at this
      unfold costOf
      omega
    omega
  refine loop_intro (fun i : Nat × List AB × (Nat → Nat) × (Nat → Nat) => ⟨[(1, .sl j jo L.length jc), (2, .i .i64 M), (6, .p σ.length 0), (7, .p (σ.length + 1) 0), (8, .sl (i.2.2.1 0) 0 i.1 (i.2.2.2 0)), (9, .i .i64 i.1)], i.2.1⟩)
    (fun i => i.1 ≤ L.length ∧ GS σ (qS0 L i.1) i.2.1 i.2.2.1 i.2.2.2) (fun i => L.length - i.1) (0, _, fun _ => σ.length + 2, fun _ => 0) ⟨Nat.zero_le _, ?_⟩ (Wk.keep (by simp [look_cons])) ?_
  · exact gs_start _ rfl rfl rfl
  rintro ⟨k, H, p, c⟩ ⟨hk, hF⟩
  simp only at hk hF
  rw [l2_spec_RunGlobal]
  refine seq_cut (fun s' => k < L.length ∧ ∃ T', s' = ⟨T', H⟩ ∧ ∀ x ∈ keep2 j jo jc L.length M σ.length p c k, Abs.look T' x.1 = x.2) ?_ ?_
  · simp only [not_true_eq_false, not_false_eq_true, decide_true, decide_false, Bool.not_true, Bool.not_false, false_implies, true_implies, and_true, true_and, Bool.false_eq_true, Bool.true_eq_false, implies_true, Bool.not_not, Classical.not_not, go_sem, Int.reduceToNat, List.take_nil, Nat.zero_mul, Nat.reduceEqDiff, Nat.reduceAdd, Nat.reduceLT, Nat.reduceLeDiff, Nat.reduceMul, ↓reduceIte, reduceCtorEq]
    refine ⟨fun hlt => ⟨hlt, _, rfl, by simp [keep2, look_cons]⟩, fun hge => ?_⟩
    have e : k = L.length := by omega
    subst e
    rw [qS0_all L M] at hF
    refine loop_intro (fun i : Nat × List AB × (Nat → Nat) × (Nat → Nat) => ⟨keep3 j jo jc L.length M σ.length i.2.2.1 i.2.2.2 i.1, i.2.1⟩)
      (fun i => i.1 ≤ 120 ∧ GS σ (qS L M i.1) i.2.1 i.2.2.1 i.2.2.2) (fun i => 120 - i.1) (0, H, p, c) ⟨Nat.zero_le _, hF⟩ (Wk.keep (by
        intro x hx
        simp only [keep3, List.mem_cons, List.not_mem_nil, or_false] at hx
        rcases hx with rfl | rfl | rfl | rfl | rfl | rfl <;> simp [look_cons])) ?_
    clear hF hk
    clear H p c
    rintro ⟨t, H, p, c⟩ ⟨ht, hF⟩
    simp only at ht hF
    simp only [l1_spec_RunGlobal, keep3, not_true_eq_false, not_false_eq_true, decide_true, decide_false, Bool.not_true, Bool.not_false, false_implies, true_implies, and_true, true_and, Bool.false_eq_true, Bool.true_eq_false, implies_true, Bool.not_not, Classical.not_not, go_sem, Int.reduceToNat, List.take_nil, Nat.zero_mul, Nat.reduceEqDiff, Nat.reduceAdd, Nat.reduceLT, Nat.reduceLeDiff, Nat.reduceMul, ↓reduceIte, reduceCtorEq]
    refine ⟨fun hlt => ?_, fun hge => ?_⟩
    · have hlen := gSt_len L M t
      have hsel := gRow_inv (L := L) (m := M) t
      have hlo := leftOf_length L (gSt L M t).done
      have hrd : Rd encInt H (.sl (p 0) 0 L.length (c 0)) (leftOf L (gSt L M t).done) := by
        have := Rd.own (cap := c 0) (cells_rwG hF.b0)
        rw [show (qS L M t).lf.length = L.length from hlo] at this
        exact this
      refine spec_l14Pick_ (L := L) (done := (gSt L M t).done) (by omega) (by omega) (by omega) hlen.1 (hF.base.rd hv) hrd fun cap => ?_
      have hRl : (qS L M t).R.length = t := by simp [qS]
      obtain ⟨H2, p2, c2, eH, e0, ec0, eN, eC, hF2⟩ : ∃ H2 p2 c2, H ++ [AB.rw ty_int (encInt.row (natsOf (gRow L M t))) (cap * 1)] = H2 ∧ p2 0 = p 0 ∧ c2 0 = c 0 ∧ p2 (t + 4) = H.length ∧ c2 (t + 4) = cap ∧ GS σ { qS L M t with R := (qS L M t).R ++ [natsOf (gRow L M t)] } H2 p2 c2 := by
        have hF2 := hF.row (by simp [qS]) (natsOf (gRow L M t)) cap
        rw [hRl] at hF2
        exact ⟨_, _, _, rfl, up_ne _ _ (by omega), up_ne _ _ (by omega), up_eq _ _ _, up_eq _ _ _, hF2⟩
      change kI _ _ _ _ _ (AV.sl H.length 0 (natsOf (gRow L M t)).length cap) (H ++ [AB.rw ty_int (encInt.row (natsOf (gRow L M t))) (cap * 1)])
      rw [eH, ← e0, ← ec0, ← eN, ← eC, natsOf_len]
      clear eH e0 ec0 eN eC hrd hF
      simp only [not_true_eq_false, not_false_eq_true, decide_true, decide_false, Bool.not_true, Bool.not_false, false_implies, true_implies, and_true, true_and, Bool.false_eq_true, Bool.true_eq_false, implies_true, Bool.not_not, Classical.not_not, go_sem, Int.reduceToNat, List.take_nil, Nat.zero_mul, Nat.reduceEqDiff, Nat.reduceAdd, Nat.reduceLT, Nat.reduceLeDiff, Nat.reduceMul, ↓reduceIte, reduceCtorEq]
      have hrow : gRw ((qS L M t).R ++ [natsOf (gRow L M t)]) t = natsOf (gRow L M t) := by
        have := gRw_new (qS L M t).R (natsOf (gRow L M t))
        rwa [hRl] at this
      have hqn : (qS L M t).n = t := rfl
      refine rs_run (j := j) (jo := jo) (jc := jc) (M := M) (t := t) (o := gRow L M t) (s := gSt L M t) (by omega) (by omega) (fun i hi => by
        have g1 := gDn_bd (m := M) hi t
        have g2 := leftOf_gI L (gSt L M t).done i hi
        have g3 := hsel.len
        have g4 := hE i hi
        unfold gDn at g1
        omega) hsel.lt (by have := hsel.len; omega) hsel.nd hlen.1 hlen.2 rfl rfl (by simp only [List.length_append, hRl, hqn, List.length_cons]; omega) hrow hF2 (by
        intro x hx
        simp only [keep3, hqn, List.mem_cons, List.not_mem_nil, or_false, List.cons_append, List.nil_append] at hx
        rcases hx with rfl | rfl | rfl | rfl | rfl | rfl | rfl | rfl <;> simp [look_cons]) fun T3 H3 hT3 hF3 => ?_
      simp only [hqn] at hT3 hF3
      have q1 := hT3 (1, .sl j jo L.length jc) (by simp [keep3])
      have q2 := hT3 (2, .i .i64 M) (by simp [keep3])
      have q6 := hT3 (6, .p σ.length 0) (by simp [keep3])
      have q7 := hT3 (7, .p (σ.length + 1) 0) (by simp [keep3])
      have q8 := hT3 (8, .sl (p2 0) 0 L.length (c2 0)) (by simp [keep3])
      have q10 := hT3 (10, .i .i64 t) (by simp [keep3])
      have q11 := hT3 (11, .sl (p2 (t + 4)) 0 (gRow L M t).length (c2 (t + 4))) (by simp [keep3])
      simp only at q1 q2 q6 q7 q8 q10 q11
      have hlen3 := hF3.base.2
      have hfl : (gDo L t (gRow L M t) (gSt L M t)).fin.length = L.length := by rw [(gDo_len (L := L) (now := t) (gRow L M t) (gSt L M t)).2]; exact hlen.2
      have eqS : ({ lf := leftOf L (gDo L t (gRow L M t) (gSt L M t)).done, fin := (gDo L t (gRow L M t) (gSt L M t)).fin, R := (qS L M t).R ++ [natsOf (gRow L M t)], n := t + 1 } : QS) = qS L M (t + 1) := by
        unfold qS
        rw [List.range_succ, List.map_append]; rfl
      have hrc := runC_succ p2 c2 ((qS L M t).R ++ [natsOf (gRow L M t)]) t
      rw [hrow, natsOf_len] at hrc
      have hrl := runC_len p2 c2 ((qS L M t).R ++ [natsOf (gRow L M t)]) t
      have hout : H3[σ.length + 1]? = some (.rw ty_impl_GlobalRun [vN p2 c2 2 t, vN p2 c2 3 L.length] 2) := by
        rw [hF3.out]; simp [outS, hfl]
      rcases Nat.eq_zero_or_pos t with h0 | h0
      · have hv3 : vN p2 c2 2 t = .sn := if_pos h0
        rw [hv3] at hout
        have f2 : ∀ one new, (H3 ++ [one] ++ [new])[σ.length + 1]? = some (.rw ty_impl_GlobalRun [.sn, vN p2 c2 3 L.length] 2) := fun one new => by
          rw [List.getElem?_append_left (by simp only [List.length_append]; omega), List.getElem?_append_left (by omega)]; exact hout
        simp only [q1, q7, q10, q11, hout, at_new0, f2, not_true_eq_false, not_false_eq_true, decide_true, decide_false, Bool.not_true, Bool.not_false, false_implies, true_implies, and_true, true_and, Bool.false_eq_true, Bool.true_eq_false, implies_true, Bool.not_not, Classical.not_not, go_sem, Int.reduceToNat, List.take_nil, Nat.zero_mul, Nat.reduceEqDiff, Nat.reduceAdd, Nat.reduceLT, Nat.reduceLeDiff, Nat.reduceMul, ↓reduceIte, reduceCtorEq]
        intro cap2 hcap2
        have := hF3.run0 (by simp only [hqn]; exact h0) (.rw ty_sl_int [.sl (p2 (t + 4)) 0 (gRow L M t).length (c2 (t + 4))] 1) cap2 (cs := [.sl (H3.length + 1) 0 1 cap2, vN p2 c2 3 L.length]) (by
          simp only [outS, hqn]
          rw [vN_up p2 c2 (i := 2) (j := 3) _ _ _ (by decide), hfl]
          subst h0
          rfl)
        simp only [hqn] at this
        rw [Nat.mul_one, eqS, hrc, show runC p2 c2 ((qS L M t).R ++ [natsOf (gRow L M t)]) t = [] from List.eq_nil_of_length_eq_zero (by rw [hrl, h0]), List.nil_append] at this
        refine ⟨by omega, (t + 1, _, up p2 2 (H3.length + 1), up c2 2 cap2), ⟨⟨by simp only; omega, this⟩, by simp only; omega⟩, Wk.keep ?_⟩
        intro x hx
        simp only [List.mem_cons, List.not_mem_nil, or_false] at hx
        rcases hx with rfl | rfl | rfl | rfl | rfl | rfl <;> simp [look_cons, q1, q2, q6, q7, q8, up]
      · have hv3 : vN p2 c2 2 t = .sl (p2 2) 0 t (c2 2) := if_neg (by omega)
        rw [hv3] at hout
        have hb2 := hF3.b2 (by simp only [hqn]; omega)
        simp only [hqn] at hb2
        have h5 : SB { lf := leftOf L (gDo L t (gRow L M t) (gSt L M t)).done, fin := (gDo L t (gRow L M t) (gSt L M t)).fin, R := (qS L M t).R ++ [natsOf (gRow L M t)], n := t } p2 c2 2 = some (.rw ty_sl_int (runC p2 c2 ((qS L M t).R ++ [natsOf (gRow L M t)]) t) (c2 2 * 1)) := if_neg (by simp only; omega)
        have hge5 := hF3.lay.ge h5
        have f1 : ∀ one : AB, (H3 ++ [one])[p2 2]? = some (.rw ty_sl_int (runC p2 c2 ((qS L M t).R ++ [natsOf (gRow L M t)]) t) (c2 2 * 1)) := fun one => at_old hb2 _
        have f2 : ∀ one new : AB, ((H3 ++ [one]).set (p2 2) .dead ++ [new])[σ.length + 1]? = some (.rw ty_impl_GlobalRun [.sl (p2 2) 0 t (c2 2), vN p2 c2 3 L.length] 2) := fun one new => by
          rw [List.getElem?_append_left (by simp only [List.length_set, List.length_append]; omega), List.getElem?_set_ne (by omega), List.getElem?_append_left (by omega)]; exact hout
        simp only [q1, q7, q10, q11, hout, at_new0, f1, f2, hrl, not_true_eq_false, not_false_eq_true, decide_true, decide_false, Bool.not_true, Bool.not_false, false_implies, true_implies, and_true, true_and, Bool.false_eq_true, Bool.true_eq_false, implies_true, Bool.not_not, Classical.not_not, go_sem, Int.reduceToNat, List.take_nil, Nat.zero_mul, Nat.reduceEqDiff, Nat.reduceAdd, Nat.reduceLT, Nat.reduceLeDiff, Nat.reduceMul, ↓reduceIte, reduceCtorEq]
        refine ⟨by omega, fun cap2 hcap2 => ?_⟩
        have := hF3.run1 (by simp only [hqn]; omega) (.rw ty_sl_int [.sl (p2 (t + 4)) 0 (gRow L M t).length (c2 (t + 4))] 1) cap2 (cs := [.sl (H3.length + 1) 0 (t + 1) cap2, vN p2 c2 3 L.length]) (by
          simp only [outS, hqn]
          rw [vN_up p2 c2 (i := 2) (j := 3) _ _ _ (by decide), hfl]
          simp [vN, up])
        simp only [hqn] at this
        rw [Nat.mul_one, eqS, hrc] at this
        rw [List.take_of_length_le (by rw [hrl]; omega)]
        refine ⟨by omega, (t + 1, _, up p2 2 (H3.length + 1), up c2 2 cap2), ⟨⟨by simp only; omega, this⟩, by simp only; omega⟩, Wk.keep ?_⟩
        intro x hx
        simp only [List.mem_cons, List.not_mem_nil, or_false] at hx
        rcases hx with rfl | rfl | rfl | rfl | rfl | rfl <;> simp [look_cons, q1, q2, q6, q7, q8, up]
    · have ht2 : t = 120 := by omega
      subst ht2
      have hres := hF.res
      have hout := hF.out
      have hfl : (gSt L M 120).fin.length = L.length := (gSt_len L M 120).2
      have hos : outS (qS L M 120) p c = [.sl (p 2) 0 120 (c 2), vN p c 3 L.length] := by simp [outS, vN, qS, hfl]
      rw [hos] at hout
      have r2 : ∀ b : AB, (H.set σ.length b)[σ.length]? = some b := fun b => List.getElem?_set_self (by have := hF.base.2; omega)
      simp only [hres, hout, r2, not_true_eq_false, not_false_eq_true, decide_true, decide_false, Bool.not_true, Bool.not_false, false_implies, true_implies, and_true, true_and, Bool.false_eq_true, Bool.true_eq_false, implies_true, Bool.not_not, Classical.not_not, go_sem, Int.reduceToNat, List.take_nil, Nat.zero_mul, Nat.reduceEqDiff, Nat.reduceAdd, Nat.reduceLT, Nat.reduceLeDiff, Nat.reduceMul, ↓reduceIte, reduceCtorEq]
      refine Fin.plain ?_
      have hb : Base σ (H.set σ.length (.rw ty_impl_GlobalRun [.sl (p 2) 0 120 (c 2), vN p c 3 L.length] 2)) 2 := hF.base.set (by omega) _
      rw [← base_split' hb]
      refine hy M rfl hok _ _ ?_
      rw [base_split' hb]
      exact globS_final hF _
  · rintro _ ⟨hkl, T', rfl, hT⟩
    have k1 := hT (1, .sl j jo L.length jc) (by simp [keep2])
    have k2 := hT (2, .i .i64 M) (by simp [keep2])
    have k6 := hT (6, .p σ.length 0) (by simp [keep2])
    have k7 := hT (7, .p (σ.length + 1) 0) (by simp [keep2])
    have k8 := hT (8, .sl (p 0) 0 k (c 0)) (by simp [keep2])
    have k9 := hT (9, .i .i64 k) (by simp [keep2])
    simp only at k1 k2 k6 k7 k8 k9
    have w1 := rd_at (E := encJob) hjl hjw k hkl 3 (by decide)
    simp only [encJob, rd_zero, rd_succ] at w1
    have hb0 := hF.b0
    have hl0 : (encInt.row ((L.take k).map Job.E)).length = k := by rw [lenI]; simp; omega
    rw [wpC_seq, wpC_block]
    refine seq_cut (fun s' => ∃ T2 H2 p2 c2, s' = ⟨T2, H2⟩ ∧ (∀ x ∈ keep2 j jo jc L.length M σ.length p2 c2 k, x.1 ≠ 8 → Abs.look T2 x.1 = x.2) ∧ Abs.look T2 8 = .sl (p2 0) 0 (k + 1) (c2 0) ∧ GS σ { qS0 L k with lf := (L.take (k + 1)).map Job.E } H2 p2 c2) ?_ ?_
    · have f1 : ∀ one : AB, (H ++ [one])[p 0]? = some (.rw ty_int (encInt.row ((L.take k).map Job.E)) (c 0 * 1)) := fun one => at_old hb0 _
      simp only [k1, k8, k9, onC_of (hF.base.cells hjc), w1.2, f1, at_new0, hl0, not_true_eq_false, not_false_eq_true, decide_true, decide_false, Bool.not_true, Bool.not_false, false_implies, true_implies, and_true, true_and, Bool.false_eq_true, Bool.true_eq_false, implies_true, Bool.not_not, Classical.not_not, go_sem, Int.reduceToNat, List.take_nil, Nat.zero_mul, Nat.reduceEqDiff, Nat.reduceAdd, Nat.reduceLT, Nat.reduceLeDiff, Nat.reduceMul, ↓reduceIte, reduceCtorEq]
      refine ⟨hkl, by simpa [encJob] using w1.1, by omega, fun cap hcap => ⟨_, _, up p 0 (H.length + 1), up c 0 cap, rfl, ?_, ?_, ?_⟩⟩
      rotate_right
      · have := hF.lf1 ((L.take (k + 1)).map Job.E) (.rw ty_int [.i .i64 L[k].E] 1) cap
        rw [Nat.mul_one] at this
        have e3 : (encInt.row ((L.take k).map Job.E)).take k = encInt.row ((L.take k).map Job.E) := List.take_of_length_le (by rw [hl0]; omega)
        rw [e3, appI]
        rw [List.take_succ_eq_append_getElem hkl, List.map_append] at this ⊢
        exact this
      · intro x hx h8
        simp only [keep2, List.mem_cons, List.not_mem_nil, or_false] at hx
        rcases hx with rfl | rfl | rfl | rfl | rfl | rfl <;> simp [look_cons, k1, k2, k6, k7, k9] at h8 ⊢
      · simp [look_cons, up]
    · rintro _ ⟨T2, H2, p2, c2, rfl, hT2, hT8, hF2⟩
      have k1 := hT2 (1, .sl j jo L.length jc) (by simp [keep2]) (by simp)
      have k2 := hT2 (2, .i .i64 M) (by simp [keep2]) (by simp)
      have k6 := hT2 (6, .p σ.length 0) (by simp [keep2]) (by simp)
      have k7 := hT2 (7, .p (σ.length + 1) 0) (by simp [keep2]) (by simp)
      have k9 := hT2 (9, .i .i64 k) (by simp [keep2]) (by simp)
      simp only at k1 k2 k6 k7 k9
      clear hT k8 hb0 hF
      have hlen := hF2.base.2
      have e1 : (L.take k).length = k := by simp; omega
      have hout : H2[σ.length + 1]? = some (.rw ty_impl_GlobalRun [.sn, vN p2 c2 3 k] 2) := by
        rw [hF2.out]; simp [outS, qS0, vN]
      have hnn : List.replicate (k + 1) (-1 : Int) ≠ [] := by simp
      have hq : qS0 L (k + 1) = { ({ qS0 L k with lf := (L.take (k + 1)).map Job.E } : QS) with fin := List.replicate (k + 1) (-1) } := rfl
      rcases Nat.eq_zero_or_pos k with h0 | h0
      · have hv3 : vN p2 c2 3 k = .sn := if_pos h0
        rw [hv3] at hout
        have f2 : ∀ one new, (H2 ++ [one] ++ [new])[σ.length + 1]? = some (.rw ty_impl_GlobalRun [.sn, .sn] 2) := fun one new => by
          rw [List.getElem?_append_left (by simp only [List.length_append]; omega), List.getElem?_append_left (by omega)]; exact hout
        simp only [k1, k7, k9, hout, at_new0, f2, not_true_eq_false, not_false_eq_true, decide_true, decide_false, Bool.not_true, Bool.not_false, false_implies, true_implies, and_true, true_and, Bool.false_eq_true, Bool.true_eq_false, implies_true, Bool.not_not, Classical.not_not, go_sem, Int.reduceToNat, List.take_nil, Nat.zero_mul, Nat.reduceEqDiff, Nat.reduceAdd, Nat.reduceLT, Nat.reduceLeDiff, Nat.reduceMul, ↓reduceIte, reduceCtorEq]
        intro cap hcap
        have := hF2.fin0 (by subst h0; rfl) (List.replicate (k + 1) (-1)) hnn (.rw ty_int [.i .i64 (-1)] 1) cap (cs := [.sn, .sl (H2.length + 1) 0 1 cap]) (by subst h0; rfl)
        rw [Nat.mul_one, show encInt.row (List.replicate (k + 1) (-1)) = [.i .i64 (-1)] by subst h0; rfl] at this
        refine ⟨by omega, (k + 1, _, up p2 3 (H2.length + 1), up c2 3 cap), ⟨⟨by simp only; omega, by simp only; rw [hq]; exact this⟩, by simp only; omega⟩, Wk.keep ?_⟩
        intro x hx
        simp only [List.mem_cons, List.not_mem_nil, or_false] at hx
        rcases hx with rfl | rfl | rfl | rfl | rfl | rfl <;> simp [look_cons, k1, k2, k6, k7, hT8, up]
      · have hv3 : vN p2 c2 3 k = .sl (p2 3) 0 k (c2 3) := if_neg (by omega)
        rw [hv3] at hout
        have hne : List.replicate k (-1 : Int) ≠ [] := by
          intro h
          have := congrArg List.length h
          simp at this; omega
        have h5 : SB { qS0 L k with lf := (L.take (k + 1)).map Job.E } p2 c2 3 = some (.rw ty_int (encInt.row (List.replicate k (-1))) (c2 3 * 1)) := if_neg hne
        have f1 : ∀ one : AB, (H2 ++ [one])[p2 3]? = some (.rw ty_int (encInt.row (List.replicate k (-1))) (c2 3 * 1)) := fun one => at_old (hF2.lay.at h5) _
        have hge5 := hF2.lay.ge h5
        have f2 : ∀ one new : AB, ((H2 ++ [one]).set (p2 3) .dead ++ [new])[σ.length + 1]? = some (.rw ty_impl_GlobalRun [.sn, .sl (p2 3) 0 k (c2 3)] 2) := fun one new => by
          rw [List.getElem?_append_left (by simp only [List.length_set, List.length_append]; omega), List.getElem?_set_ne (by omega), List.getElem?_append_left (by omega)]; exact hout
        have hlc : (encInt.row (List.replicate k (-1))).length = k := by rw [lenI]; simp
        simp only [k1, k7, k9, hout, at_new0, f1, f2, hlc, not_true_eq_false, not_false_eq_true, decide_true, decide_false, Bool.not_true, Bool.not_false, false_implies, true_implies, and_true, true_and, Bool.false_eq_true, Bool.true_eq_false, implies_true, Bool.not_not, Classical.not_not, go_sem, Int.reduceToNat, List.take_nil, Nat.zero_mul, Nat.reduceEqDiff, Nat.reduceAdd, Nat.reduceLT, Nat.reduceLeDiff, Nat.reduceMul, ↓reduceIte, reduceCtorEq]
        refine ⟨by omega, fun cap hcap => ?_⟩
        have := hF2.fin1 (l := List.replicate (k + 1) (-1)) hne hnn (.rw ty_int [.i .i64 (-1)] 1) cap (cs := [.sn, .sl (H2.length + 1) 0 (k + 1) cap]) (by
          simp only [outS, qS0, vN, up, List.length_replicate]; simp)
        have e3 : (encInt.row (List.replicate k (-1))).take k = encInt.row (List.replicate k (-1)) := List.take_of_length_le (by rw [hlc]; omega)
        have e4 : List.replicate (k + 1) (-1 : Int) = List.replicate k (-1) ++ [-1] := List.replicate_succ'
        rw [Nat.mul_one, e4, ← appI] at this
        rw [e3]
        refine ⟨by omega, (k + 1, _, up p2 3 (H2.length + 1), up c2 3 cap), ⟨⟨by simp only; omega, by simp only; rw [hq, e4]; exact this⟩, by simp only; omega⟩, Wk.keep ?_⟩
        intro x hx
        simp only [List.mem_cons, List.not_mem_nil, or_false] at hx
        rcases hx with rfl | rfl | rfl | rfl | rfl | rfl <;> simp [look_cons, k1, k2, k6, k7, hT8, up]
end Go.Proofs.Ytmphblbpofnpaaa
