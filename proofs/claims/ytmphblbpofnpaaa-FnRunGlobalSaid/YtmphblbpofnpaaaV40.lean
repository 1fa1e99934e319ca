import Derived.Test.YtmphblbpofnpaaaS82
namespace Go.Proofs.Ytmphblbpofnpaaa
open Go.Abs Go.Ds
set_option linter.unusedSimpArgs false
set_option linter.unusedVariables false
set_option maxRecDepth 20000
set_option maxHeartbeats 2000000
theorem laws_containsG0 (R : List Int) (x : Int) (hs : R.length ≤ 1099511627776) (c : Nat) : CallWp Try.prog n_laws_contains [.sl 0 0 R.length c, .i .i64 x] [.ro (encInt.row R)] (fun v σ => v = .b (decide (x ∈ R)) ∧ σ = [.ro (encInt.row R)]) := by
  refine call_laws_contains (by simp) ?_
  simp only [c_laws_contains, go_sem, Int.reduceToNat, List.take_nil, Nat.zero_mul, Nat.reduceEqDiff, Nat.reduceAdd, Nat.reduceLT, Nat.reduceLeDiff, Nat.reduceMul, ↓reduceIte, reduceCtorEq]
  refine loop_count R.length (fun k => ⟨[(0, .sl 0 0 R.length c), (1, .i .i64 x), (5, .i .i64 k)], [.ro (encInt.row R)]⟩) (fun k => ∀ i (h : i < R.length), i < k → R[i] ≠ x) (fun i h h0 => absurd h0 (by omega)) (Wk.keep (by simp [look_cons])) fun k hk hJ => ?_
  simp only [l0_laws_contains, go_sem, Int.reduceToNat, List.take_nil, Nat.zero_mul, Nat.reduceEqDiff, Nat.reduceAdd, Nat.reduceLT, Nat.reduceLeDiff, Nat.reduceMul, ↓reduceIte, reduceCtorEq]
  refine ⟨fun h => ?_, fun h => ?_⟩
  · simp only [rdI h, lenI, go_sem, Int.reduceToNat, List.take_nil, Nat.zero_mul, Nat.reduceEqDiff, Nat.reduceAdd, Nat.reduceLT, Nat.reduceLeDiff, Nat.reduceMul, ↓reduceIte, reduceCtorEq]
    refine ⟨by omega, by omega, fun h1 => Fin.plain ⟨?_, rfl⟩, fun h1 => ⟨by omega, ⟨h, fun i hi hik => ?_⟩, Wk.keep (by simp [look_cons])⟩⟩
    · rw [decide_eq_true (by rw [← h1]; exact List.getElem_mem h)]
    · rcases Nat.lt_or_eq_of_le (Nat.le_of_lt_succ hik) with h2 | rfl
      · exact hJ i hi h2
      · exact h1
  · refine Fin.plain ⟨?_, rfl⟩
    rw [decide_eq_false fun hm => ?_]
    obtain ⟨i, hi, e⟩ := List.getElem_of_mem hm
    exact hJ i hi (by omega) e
theorem laws_containsG_ {R : List Int} {x : Int} (hs : R.length ≤ 1099511627776) {v : AV} {σ : List AB} (h : Rd encInt σ v R) {K : AV → List AB → Prop} (hk : K (.b (decide (x ∈ R))) σ) : CallWp Try.prog n_laws_contains [v, .i .i64 x] σ K :=
  call_rds _ (rds1 h.r) (fun c => [.sl 0 0 R.length (c 0), .i .i64 x]) (fun c => laws_containsG0 R x hs (c 0)) (fun ν c h => ⟨h.1, .inl rfl, trivial⟩) (fun _ => rfl) rfl hk
theorem rd_pre {σ : List AB} {n o c : Nat} {cs : List AV} {R : List Int} (hc : cellsOf σ n = some cs) (hl : o + R.length ≤ cs.length) (hw : win cs o R.length = encInt.row R) {k : Nat} (hk : k ≤ R.length) : Rd encInt σ (.sl n o k c) (R.take k) := by
  have e : (R.take k).length = k := by rw [List.length_take]; omega
  have hn := cells_lt hc
  refine .inl ⟨n, o, c, cs, by rw [e], hn, hc, by rw [e]; simp only [encInt, Nat.mul_one]; omega, ?_⟩
  rw [e]
  have h1 : win cs o (k * 1) = (win cs o R.length).take k := by
    simp only [win, List.take_take, Nat.mul_one]
    rw [Nat.min_eq_left hk]
  have h2 := encInt.take R k
  simp only [encInt, Nat.mul_one] at h1 h2 ⊢
  rw [h1]
  simp only [encInt] at hw
  rw [hw, h2]
section
variable {L : List Job} {H : List AB} {j jc D g : Nat} {m : Int} {t : Nat} {vr : AV} {o : List Nat} {dn : List Int} {L0 : Nat} {Q : Exit → St → Prop} {T : List (Nat × AV)}
def keepL (j jc n : Nat) (m : Int) (g D t : Nat) (vr : AV) : List (Nat × AV) := [(4, .sl j 0 n jc), (5, .i .i64 m), (6, .p g 0), (7, .sl D 0 n n), (8, .i .i64 t), (9, vr)]
theorem gl3 (hl : L.length ≤ 1000) (hj : cellsOf H j = some (encJob.row L)) (hD : cellsOf H D = some (encInt.row dn)) (hdn : dn.length = L.length) (hr : Rd encInt H vr (natsOf o)) (hnd : o.Nodup) (ho : ∀ i ∈ o, i < L.length ∧ (L.getD i default).R ≤ t ∧ gI dn i < (L.getD i default).E)
    (hol : o.length ≤ 1000) (hT : ∀ x ∈ keepL j jc L.length m g D t vr ++ [(10, .i .i64 0)], Abs.look T x.1 = x.2) (hk : ∀ T', (∀ x ∈ keepL j jc L.length m g D t vr, Abs.look T' x.1 = x.2) → Q (.exit 2) ⟨T', H⟩) : wpC Try.prog L0 212 (.loop l3_laws_FnRunGlobal) Q ⟨T, H⟩ := by
  refine loop_count o.length (fun k => ⟨keepL j jc L.length m g D t vr ++ [(10, .i .i64 k)], H⟩) (fun _ => True) trivial (Wk.keep hT) fun k hkl _ => ?_
  have fin : ∀ T' : List (Nat × AV), (∀ x ∈ keepL j jc L.length m g D t vr, Abs.look T' x.1 = x.2) → Q (.exit 2) ⟨T', H⟩ := hk
  rcases hr with ⟨n, o', cap, cs, rfl, hn, hc, hle, hw⟩ | ⟨rfl, h0, _⟩
  · rw [natsOf_len] at hle hw
    have hle' : o' + o.length ≤ cs.length := by simpa [encInt] using hle
    have hw' : win cs o' o.length = encInt.row (natsOf o) := by simpa [encInt] using hw
    rw [natsOf_len] at fin ⊢
    simp only [l3_laws_FnRunGlobal, keepL, List.cons_append, List.nil_append, not_true_eq_false, not_false_eq_true, decide_true, decide_false, Bool.not_true, Bool.not_false, false_implies, true_implies, and_true, true_and, Bool.false_eq_true, Bool.true_eq_false, implies_true, Bool.not_not, Classical.not_not, go_sem, Int.reduceToNat, List.take_nil, Nat.zero_mul, Nat.reduceEqDiff, Nat.reduceAdd, Nat.reduceLT, Nat.reduceLeDiff, Nat.reduceMul, ↓reduceIte, reduceCtorEq]
    refine ⟨fun hlt => ?_, fun hge => ?_⟩
    · have hkn : k < (natsOf o).length := by rw [natsOf_len]; exact hlt
      have q1 := rd_at (E := encInt) (L := natsOf o) (by rw [natsOf_len]; exact hle) (by rw [natsOf_len]; exact hw) k hkn 0 (by decide)
      simp only [encInt, Nat.mul_one, Nat.add_zero, rd_zero, natsOf_get hkn] at q1
      obtain ⟨ok1, ok2, ok3⟩ := ho _ (List.getElem_mem hlt)
      have hpre : Rd encInt H (.sl n o' k cap) ((natsOf o).take k) := rd_pre hc (by rw [natsOf_len]; exact hle') (by rw [natsOf_len]; exact hw') (by omega)
      have hnin : ((o[k] : Nat) : Int) ∉ (natsOf o).take k := fun hm => by
        obtain ⟨r, hr, e⟩ := List.getElem_of_mem hm
        rw [List.length_take] at hr
        rw [List.getElem_take, natsOf_get (by omega)] at e
        have := List.pairwise_iff_getElem.1 hnd r k (by omega) hlt (by omega)
        exact this (by omega)
      have gL : L.getD o[k] default = L[o[k]] := by simp [List.getD_eq_getElem?_getD, ok1]
      rw [gL] at ok2 ok3
      have hd1 : o[k] < dn.length := by omega
      have gd : gI dn o[k] = dn[o[k]] := by simp [gI, List.getD_eq_getElem?_getD, hd1]
      rw [gd] at ok3
      simp only [onC_of hc, q1.2, not_true_eq_false, not_false_eq_true, decide_true, decide_false, Bool.not_true, Bool.not_false, false_implies, true_implies, and_true, true_and, Bool.false_eq_true, Bool.true_eq_false, implies_true, Bool.not_not, Classical.not_not, go_sem, Int.reduceToNat, List.take_nil, Nat.zero_mul, Nat.reduceEqDiff, Nat.reduceAdd, Nat.reduceLT, Nat.reduceLeDiff, Nat.reduceMul, ↓reduceIte, reduceCtorEq]
      refine ⟨.inr (by omega), hlt, q1.1, onCall.by (laws_containsG_ (R := (natsOf o).take k) (by rw [List.length_take, natsOf_len]; omega) hpre ⟨rfl, rfl⟩) ?_⟩
      simp only [hnin, decide_false, onC_of hc, onC_of hj, onC_of hD, q1.2, rdJ1 ok1, rdJ3 ok1, lenJ, rdI hd1, lenI, hdn, not_true_eq_false, not_false_eq_true, decide_true, decide_false, Bool.not_true, Bool.not_false, false_implies, true_implies, and_true, true_and, Bool.false_eq_true, Bool.true_eq_false, implies_true, Bool.not_not, Classical.not_not, go_sem, Int.reduceToNat, List.take_nil, Nat.zero_mul, Nat.reduceEqDiff, Nat.reduceAdd, Nat.reduceLT, Nat.reduceLeDiff, Nat.reduceMul, ↓reduceIte, reduceCtorEq]
      refine ⟨hlt, q1.1, ok1, by omega, fun _ => ?_, fun hbad => absurd hbad (by omega)⟩
      refine ⟨hlt, q1.1, ok1, ok1, hlt, q1.1, ok1, by omega, fun hbad => absurd hbad (by omega), fun _ => ⟨by omega, hlt, Wk.keep ?_⟩⟩
      intro x hx
      simp only [List.mem_cons, List.not_mem_nil, or_false] at hx
      rcases hx with rfl | rfl | rfl | rfl | rfl | rfl | rfl <;> simp [look_cons]
    · refine fin _ ?_
      intro x hx
      simp only [keepL, List.mem_cons, List.not_mem_nil, or_false] at hx
      rcases hx with rfl | rfl | rfl | rfl | rfl | rfl <;> simp [look_cons]
  · have hz : o.length = 0 := by rw [← natsOf_len, h0]; rfl
    simp only [l3_laws_FnRunGlobal, keepL, List.cons_append, List.nil_append, not_true_eq_false, not_false_eq_true, decide_true, decide_false, Bool.not_true, Bool.not_false, false_implies, true_implies, and_true, true_and, Bool.false_eq_true, Bool.true_eq_false, implies_true, Bool.not_not, Classical.not_not, go_sem, Int.reduceToNat, List.take_nil, Nat.zero_mul, Nat.reduceEqDiff, Nat.reduceAdd, Nat.reduceLT, Nat.reduceLeDiff, Nat.reduceMul, ↓reduceIte, reduceCtorEq]
    first
      | (refine ⟨fun hlt => absurd hlt (by omega), fun hge => fin _ ?_⟩
         intro x hx
         simp only [keepL, List.mem_cons, List.not_mem_nil, or_false] at hx
         rcases hx with rfl | rfl | rfl | rfl | rfl | rfl <;> simp [look_cons])
theorem gl2 (hl : L.length ≤ 1000) (hj : cellsOf H j = some (encJob.row L)) (hD : cellsOf H D = some (encInt.row dn)) (hdn : dn.length = L.length) (hr : Rd encInt H vr (natsOf o)) (ho : ∀ i ∈ o, i < L.length) (hol : o.length ≤ 1000) (ht : t ≤ 1000) (hm : 1 ≤ m)
    (hf : ∀ i, i < L.length → (L.getD i default).R ≤ t → gI dn i ≠ (L.getD i default).E → i ∉ o → (o.length : Int) = m ∧ ∀ k ∈ o, (L.getD k default).D ≤ (L.getD i default).D)
    (hT : ∀ x ∈ keepL j jc L.length m g D t vr ++ [(11, .i .i64 0)], Abs.look T x.1 = x.2) (hk : ∀ T', (∀ x ∈ keepL j jc L.length m g D t vr, Abs.look T' x.1 = x.2) → Q (.exit 4) ⟨T', H⟩) : wpC Try.prog L0 212 (.loop l2_laws_FnRunGlobal) Q ⟨T, H⟩ := by
  refine loop_count L.length (fun i => ⟨keepL j jc L.length m g D t vr ++ [(11, .i .i64 i)], H⟩) (fun _ => True) trivial (Wk.keep hT) fun i hil _ => ?_
  simp only [l2_laws_FnRunGlobal, keepL, List.cons_append, List.nil_append, not_true_eq_false, not_false_eq_true, decide_true, decide_false, Bool.not_true, Bool.not_false, false_implies, true_implies, and_true, true_and, Bool.false_eq_true, Bool.true_eq_false, implies_true, Bool.not_not, Classical.not_not, go_sem, Int.reduceToNat, List.take_nil, Nat.zero_mul, Nat.reduceEqDiff, Nat.reduceAdd, Nat.reduceLT, Nat.reduceLeDiff, Nat.reduceMul, ↓reduceIte, reduceCtorEq]
  refine ⟨fun hlt => ?_, fun hge => ?_⟩
  · have gL : L.getD i default = L[i] := by simp [List.getD_eq_getElem?_getD, hlt]
    have hd1 : i < dn.length := by omega
    have gd : gI dn i = dn[i] := by simp [gI, List.getD_eq_getElem?_getD, hd1]
    have hf' := hf i hlt
    rw [gL, gd] at hf'
    have keep : ∀ T' : List (Nat × AV), (∀ x ∈ [((4 : Nat), AV.sl j 0 L.length jc), (5, .i .i64 m), (6, .p g 0), (7, .sl D 0 L.length L.length), (8, .i .i64 t), (9, vr), (11, .i .i64 ((i + 1 : Nat) : Int))], Abs.look T' x.1 = x.2) → Wk L0 212 ⟨T', H⟩ ⟨[(4, .sl j 0 L.length jc), (5, .i .i64 m), (6, .p g 0), (7, .sl D 0 L.length L.length), (8, .i .i64 t), (9, vr), (11, .i .i64 ((i + 1 : Nat) : Int))], H⟩ := fun T' h => Wk.keep h
    have hrd := hr.data
    simp only [onC_of hj, onC_of hD, rdJ1 hlt, rdJ3 hlt, rdI hd1, lenJ, lenI, hdn, hrd, not_true_eq_false, not_false_eq_true, decide_true, decide_false, Bool.not_true, Bool.not_false, false_implies, true_implies, and_true, true_and, Bool.false_eq_true, Bool.true_eq_false, implies_true, Bool.not_not, Classical.not_not, go_sem, Int.reduceToNat, List.take_nil, Nat.zero_mul, Nat.reduceEqDiff, Nat.reduceAdd, Nat.reduceLT, Nat.reduceLeDiff, Nat.reduceMul, ↓reduceIte, reduceCtorEq]
    refine ⟨hlt, by omega, fun h1 => ⟨hlt, hlt, hlt, by omega, fun h2 => ?_, fun h2 => ⟨by omega, hlt, ?_⟩⟩, fun h1 => ⟨by omega, hlt, ?_⟩⟩
    · refine onCall.by (laws_containsG_ (R := natsOf o) (x := (i : Int)) (by rw [natsOf_len]; omega) hr ⟨rfl, rfl⟩) ?_
      simp only [not_true_eq_false, not_false_eq_true, decide_true, decide_false, Bool.not_true, Bool.not_false, false_implies, true_implies, and_true, true_and, Bool.false_eq_true, Bool.true_eq_false, implies_true, Bool.not_not, Classical.not_not, go_sem, Int.reduceToNat, List.take_nil, Nat.zero_mul, Nat.reduceEqDiff, Nat.reduceAdd, Nat.reduceLT, Nat.reduceLeDiff, Nat.reduceMul, ↓reduceIte, reduceCtorEq]
      refine ⟨fun hin => ⟨by omega, hlt, keep _ ?_⟩, fun hin => ?_⟩
      · intro x hx
        simp only [List.mem_cons, List.not_mem_nil, or_false] at hx
        rcases hx with rfl | rfl | rfl | rfl | rfl | rfl | rfl <;> simp [look_cons]
      · have hin' : i ∉ o := fun h => hin (natsOf_mem.2 h)
        obtain ⟨e1, e2⟩ := hf' (by omega) h2 hin'
        rcases hr with ⟨n, o', cap, cs, rfl, hn, hc, hle, hw⟩ | ⟨rfl, h0, _⟩
        · rw [natsOf_len] at hle hw keep ⊢
          simp only [not_true_eq_false, not_false_eq_true, decide_true, decide_false, Bool.not_true, Bool.not_false, false_implies, true_implies, and_true, true_and, Bool.false_eq_true, Bool.true_eq_false, implies_true, Bool.not_not, Classical.not_not, go_sem, Int.reduceToNat, List.take_nil, Nat.zero_mul, Nat.reduceEqDiff, Nat.reduceAdd, Nat.reduceLT, Nat.reduceLeDiff, Nat.reduceMul, ↓reduceIte, reduceCtorEq]
          refine ⟨fun hbad => absurd hbad (by omega), fun _ => ?_⟩
          refine loop_count o.length (fun k => ⟨[(4, .sl j 0 L.length jc), (5, .i .i64 m), (6, .p g 0), (7, .sl D 0 L.length L.length), (8, .i .i64 t), (9, .sl n o' o.length cap), (11, .i .i64 i), (12, .i .i64 k)], H⟩) (fun _ => True) trivial (Wk.keep (by
            intro x hx
            simp only [List.mem_cons, List.not_mem_nil, or_false] at hx
            rcases hx with rfl | rfl | rfl | rfl | rfl | rfl | rfl | rfl <;> simp [look_cons])) fun k hko _ => ?_
          simp only [l1_laws_FnRunGlobal, not_true_eq_false, not_false_eq_true, decide_true, decide_false, Bool.not_true, Bool.not_false, false_implies, true_implies, and_true, true_and, Bool.false_eq_true, Bool.true_eq_false, implies_true, Bool.not_not, Classical.not_not, go_sem, Int.reduceToNat, List.take_nil, Nat.zero_mul, Nat.reduceEqDiff, Nat.reduceAdd, Nat.reduceLT, Nat.reduceLeDiff, Nat.reduceMul, ↓reduceIte, reduceCtorEq]
          refine ⟨fun hlt2 => ?_, fun hge2 => ⟨by omega, hlt, keep _ ?_⟩⟩
          · have hkn : k < (natsOf o).length := by rw [natsOf_len]; exact hlt2
            have q1 := rd_at (E := encInt) (L := natsOf o) (by rw [natsOf_len]; exact hle) (by rw [natsOf_len]; exact hw) k hkn 0 (by decide)
            simp only [encInt, Nat.mul_one, Nat.add_zero, rd_zero, natsOf_get hkn] at q1
            have ok1 := ho _ (List.getElem_mem hlt2)
            have gL2 : L.getD o[k] default = L[o[k]] := by simp [List.getD_eq_getElem?_getD, ok1]
            have e3 := e2 _ (List.getElem_mem hlt2)
            rw [gL2] at e3
            simp only [onC_of hc, onC_of hj, q1.2, rdJ2 ok1, rdJ2 hlt, lenJ, not_true_eq_false, not_false_eq_true, decide_true, decide_false, Bool.not_true, Bool.not_false, false_implies, true_implies, and_true, true_and, Bool.false_eq_true, Bool.true_eq_false, implies_true, Bool.not_not, Classical.not_not, go_sem, Int.reduceToNat, List.take_nil, Nat.zero_mul, Nat.reduceEqDiff, Nat.reduceAdd, Nat.reduceLT, Nat.reduceLeDiff, Nat.reduceMul, ↓reduceIte, reduceCtorEq]
            refine ⟨hlt2, q1.1, ok1, by omega, hlt, by omega, fun hbad => absurd hbad (by omega), fun _ => ⟨by omega, hlt2, Wk.keep ?_⟩⟩
            intro x hx
            simp only [List.mem_cons, List.not_mem_nil, or_false] at hx
            rcases hx with rfl | rfl | rfl | rfl | rfl | rfl | rfl | rfl <;> simp [look_cons]
          · intro x hx
            simp only [List.mem_cons, List.not_mem_nil, or_false] at hx
            rcases hx with rfl | rfl | rfl | rfl | rfl | rfl | rfl <;> simp [look_cons]
        · have hz : o.length = 0 := by rw [← natsOf_len, h0]; rfl
          omega
    all_goals
      refine keep _ ?_
      intro x hx
      simp only [List.mem_cons, List.not_mem_nil, or_false] at hx
      rcases hx with rfl | rfl | rfl | rfl | rfl | rfl | rfl <;> simp [look_cons]
  · have e : i = L.length := by omega
    subst e
    refine hk _ ?_
    intro x hx
    simp only [keepL, List.mem_cons, List.not_mem_nil, or_false] at hx
    rcases hx with rfl | rfl | rfl | rfl | rfl | rfl <;> simp [look_cons]
theorem gl0 {G : List AB} {s : GSt} {v1 v2 : AV} {F : List Int} {r : Nat} (hl : L.length ≤ 1000) (hj : cellsOf G j = some (encJob.row L)) (hr : Rd encInt G vr (natsOf o)) (ho : ∀ i ∈ o, i < L.length) (hnd : o.Nodup) (hol : o.length ≤ 1000) (ht : t ≤ 1000) (h1 : s.done.length = L.length) (h2 : s.fin.length = L.length)
    (hg : G[g]? = some (.rw ty_impl_GlobalRun [v1, v2] 2)) (hF : Rd encInt G v2 F) (hFl : F.length = L.length) (hb : ∀ i ∈ o, 0 ≤ gI s.done i ∧ gI s.done i ≤ 1000) (hfin : ∀ i ∈ o, gI s.done i + 1 = (L.getD i default).E → gI F i = (t : Int) + 1)
    (hT : ∀ x ∈ keepL j jc L.length m g G.length t vr ++ [(13, .i .i64 0)], Abs.look T x.1 = x.2) (hk : ∀ T', (∀ x ∈ keepL j jc L.length m g G.length t vr, Abs.look T' x.1 = x.2) → Q (.exit 8) ⟨T', G ++ [.rw ty_int (encInt.row (gDo L t o s).done) r]⟩) :
    wpC Try.prog L0 212 (.loop l0_laws_FnRunGlobal) Q ⟨T, G ++ [.rw ty_int (encInt.row s.done) r]⟩ := by
  refine loop_count o.length (fun k => ⟨keepL j jc L.length m g G.length t vr ++ [(13, .i .i64 k)], G ++ [.rw ty_int (encInt.row (gDo L t (o.take k) s).done) r]⟩) (fun _ => True) trivial (Wk.keep hT) fun k hkl _ => ?_
  have fin : ∀ T' : List (Nat × AV), k = o.length → (∀ x ∈ keepL j jc L.length m g G.length t vr, Abs.look T' x.1 = x.2) → Q (.exit 8) ⟨T', G ++ [.rw ty_int (encInt.row (gDo L t (o.take k) s).done) r]⟩ := fun T' e h => by
    subst e
    rw [List.take_length]; exact hk T' h
  rcases hr with ⟨n, o', cap, cs, rfl, hn, hc, hle, hw⟩ | ⟨rfl, h0, _⟩
  · rw [natsOf_len] at hle hw fin ⊢
    simp only [l0_laws_FnRunGlobal, keepL, List.cons_append, List.nil_append, not_true_eq_false, not_false_eq_true, decide_true, decide_false, Bool.not_true, Bool.not_false, false_implies, true_implies, and_true, true_and, Bool.false_eq_true, Bool.true_eq_false, implies_true, Bool.not_not, Classical.not_not, go_sem, Int.reduceToNat, List.take_nil, Nat.zero_mul, Nat.reduceEqDiff, Nat.reduceAdd, Nat.reduceLT, Nat.reduceLeDiff, Nat.reduceMul, ↓reduceIte, reduceCtorEq]
    refine ⟨fun hlt => ?_, fun hge => ?_⟩
    · have hkn : k < (natsOf o).length := by rw [natsOf_len]; exact hlt
      have q1 := rd_at (E := encInt) (L := natsOf o) (by rw [natsOf_len]; exact hle) (by rw [natsOf_len]; exact hw) k hkn 0 (by decide)
      simp only [encInt, Nat.mul_one, Nat.add_zero, rd_zero, natsOf_get hkn] at q1
      have ok1 := ho _ (List.getElem_mem hlt)
      have gL : L.getD o[k] default = L[o[k]] := by simp [List.getD_eq_getElem?_getD, ok1]
      have hlen := gDo_len (L := L) (now := t) (o.take k) s
      have hsn := gDo_snoc (L := L) (now := t) (o.take k) o[k] s
      rw [← List.take_succ_eq_append_getElem hlt] at hsn
      have hnk : (o.take k).Nodup := hnd.sublist (List.take_sublist ..)
      have hnin : o[k] ∉ o.take k := fun hm => by
        obtain ⟨r, hr, e⟩ := List.getElem_of_mem hm
        rw [List.length_take] at hr
        rw [List.getElem_take] at e
        exact List.pairwise_iff_getElem.1 hnd r k (by omega) hlt (by omega) e
      have hgd := (gDo_get (L := L) (now := t) (s := s) hnk (fun i hi => by have := ho i (List.mem_of_mem_take hi); omega) o[k]).1
      rw [if_neg hnin, Int.add_zero] at hgd
      have hb1 := hb _ (List.getElem_mem hlt)
      have hf1 := hfin _ (List.getElem_mem hlt)
      rw [gL, ← hgd] at hf1
      rw [← hgd] at hb1
      rw [hsn]
      generalize gDo L t (o.take k) s = s1 at *
      have d1 : o[k] < s1.done.length := by omega
      have gd : gI s1.done o[k] = s1.done[o[k]] := by simp [gI, List.getD_eq_getElem?_getD, d1]
      have hns : ∀ v, o[k] < (s1.done.set o[k] v).length := fun v => by rw [List.length_set]; exact d1
      have gs : (s1.done.set o[k] (s1.done[o[k]] + 1))[o[k]]'(hns _) = s1.done[o[k]] + 1 := List.getElem_set_self ..
      have gdo : (gDo1 L t s1 o[k]).done = s1.done.set o[k] (s1.done[o[k]] + 1) := by unfold gDo1; simp only [gd]
      have hg' := fun τ => at_old hg τ
      have hFr : o[k] < F.length := by omega
      have eF : gI F o[k] = F[o[k]] := by simp [gI, List.getD_eq_getElem?_getD, hFr]
      rw [gd, eF] at hf1
      rw [gd] at hb1
      rcases hF with ⟨n2, o2, cap2, cs2, rfl, hn2, hc2, hle2, hw2⟩ | ⟨_, hz, _⟩
      · have q2 := rd_at (E := encInt) hle2 hw2 o[k] hFr 0 (by decide)
        simp only [encInt, Nat.mul_one, Nat.add_zero, rd_zero] at q2
        rw [gdo]
        simp only [onC_old hc, onC_old hj, onC_old hc2, at_new0, set_new0, hg', q1.2, q2.2, rdI d1, splI d1, rdI (hns _), gs, rdJ3 ok1, lenJ, lenI, List.length_set, hlen, h1, hFl, not_true_eq_false, not_false_eq_true, decide_true, decide_false, Bool.not_true, Bool.not_false, false_implies, true_implies, and_true, true_and, Bool.false_eq_true, Bool.true_eq_false, implies_true, Bool.not_not, Classical.not_not, go_sem, Int.reduceToNat, List.take_nil, Nat.zero_mul, Nat.reduceEqDiff, Nat.reduceAdd, Nat.reduceLT, Nat.reduceLeDiff, Nat.reduceMul, ↓reduceIte, reduceCtorEq]
        have keep : ∀ T' : List (Nat × AV), (∀ x ∈ [((4 : Nat), AV.sl j 0 L.length jc), (5, .i .i64 m), (6, .p g 0), (7, .sl G.length 0 L.length L.length), (8, .i .i64 t), (9, .sl n o' o.length cap), (13, .i .i64 ((k + 1 : Nat) : Int))], Abs.look T' x.1 = x.2) → Wk L0 212 ⟨T', G ++ [.rw ty_int (encInt.row (s1.done.set o[k] (s1.done[o[k]] + 1))) r]⟩ ⟨[(4, .sl j 0 L.length jc), (5, .i .i64 m), (6, .p g 0), (7, .sl G.length 0 L.length L.length), (8, .i .i64 t), (9, .sl n o' o.length cap), (13, .i .i64 ((k + 1 : Nat) : Int))], G ++ [.rw ty_int (encInt.row (s1.done.set o[k] (s1.done[o[k]] + 1))) r]⟩ := fun T' h => Wk.keep h
        have e3 := q1.1
        have e4 := q2.1
        repeat' first
          | omega
          | (exfalso; omega)
          | (refine keep _ ?_
             intro x hx
             simp only [List.mem_cons, List.not_mem_nil, or_false] at hx
             rcases hx with rfl | rfl | rfl | rfl | rfl | rfl | rfl <;> simp [look_cons])
          | refine ⟨?_, ?_⟩
          | intro _
      · rw [hz] at hFr; exact absurd hFr (Nat.not_lt_zero _)
    · refine fin _ (by omega) ?_
      intro x hx
      simp only [keepL, List.mem_cons, List.not_mem_nil, or_false] at hx
      rcases hx with rfl | rfl | rfl | rfl | rfl | rfl <;> simp [look_cons]
  · have hz : o.length = 0 := by rw [← natsOf_len, h0]; rfl
    simp only [l0_laws_FnRunGlobal, keepL, List.cons_append, List.nil_append, not_true_eq_false, not_false_eq_true, decide_true, decide_false, Bool.not_true, Bool.not_false, false_implies, true_implies, and_true, true_and, Bool.false_eq_true, Bool.true_eq_false, implies_true, Bool.not_not, Classical.not_not, go_sem, Int.reduceToNat, List.take_nil, Nat.zero_mul, Nat.reduceEqDiff, Nat.reduceAdd, Nat.reduceLT, Nat.reduceLeDiff, Nat.reduceMul, ↓reduceIte, reduceCtorEq]
    refine ⟨fun hlt => absurd hlt (by omega), fun hge => fin _ (by omega) ?_⟩
    intro x hx
    simp only [keepL, List.mem_cons, List.not_mem_nil, or_false] at hx
    rcases hx with rfl | rfl | rfl | rfl | rfl | rfl <;> simp [look_cons]
end
theorem gFin_at {L : List Job} {M t i : Nat} (hE : ∀ j ∈ L, 1 ≤ j.E) (ht : t < 120) (hi : i ∈ gRow L M t) (he : gDn L M t i + 1 = (L.getD i default).E) : gI (gFin L M) i = (t : Int) + 1 := by
  have hlt := (gRow_rdy hi).1
  have h1 := gFin_succ (L := L) (m := M) t i
  rw [if_pos ⟨hi, he⟩] at h1
  have h2 : gDn L M (t + 1) i = (L.getD i default).E := by rw [gDn_succ, if_pos hi]; exact he
  have h3 := (gFin_keep hE hlt h2 (120 - (t + 1))).2
  rw [show t + 1 + (120 - (t + 1)) = 120 by omega] at h3
  exact h3.trans h1
theorem GlobAns.data {σ : List AB} {x : AV} {R : List (List Int)} {F : List Int} (h : GlobAns σ x R F) : x.data = true := by
  obtain ⟨v1, v2, rfl, r1, r2⟩ := h
  simp only [r1.data, r2.data, not_true_eq_false, not_false_eq_true, decide_true, decide_false, Bool.not_true, Bool.not_false, false_implies, true_implies, and_true, true_and, Bool.false_eq_true, Bool.true_eq_false, implies_true, Bool.not_not, Classical.not_not, go_sem, Int.reduceToNat, List.take_nil, Nat.zero_mul, Nat.reduceEqDiff, Nat.reduceAdd, Nat.reduceLT, Nat.reduceLeDiff, Nat.reduceMul, ↓reduceIte, reduceCtorEq]
theorem GlobAns.none {σ : List AB} (h : 0 < σ.length) : GlobAns σ (.agg [.sn, .sn]) [] [] := ⟨_, _, rfl, .inr ⟨rfl, rfl, h⟩, .inr ⟨rfl, rfl, h⟩⟩
theorem gRows_row {L : List Job} {M : Nat} (hM : M ≤ 1000) : ∀ r ∈ gRows L M, r.length ≤ 1000000 := fun r hr => by
  unfold gRows at hr
  obtain ⟨k, _, rfl⟩ := List.mem_map.1 hr
  rw [natsOf_len]
  have := (gRow_inv (L := L) (m := M) k).len
  omega
theorem rd_len {σ : List AB} {v : AV} {R : List Int} {F : Nat → Prop} {G : Prop} (hr : Rd encInt σ v R) (h : F 0 → G) (hF : F R.length) : onSl v (fun _ _ n _ => F n) G := by
  rcases hr with ⟨n, o, cap, cs, rfl, _⟩ | ⟨rfl, h0, _⟩
  · exact hF
  · rw [h0] at hF; exact h hF
theorem laws_FnRunGlobal0 (C : List Nat) (hC : ∀ x ∈ C, x < 256) (c : Nat) (hc : C.length ≤ c) : CallWp Try.prog n_laws_FnRunGlobal [.sl 0 0 C.length c] [.ro (encByte.row C)] (fun x _ => x = .b true) := by
  refine call_laws_FnRunGlobal (by simp) ?_
  simp only [c_laws_FnRunGlobal, go_sem, Int.reduceToNat, List.take_nil, Nat.zero_mul, Nat.reduceEqDiff, Nat.reduceAdd, Nat.reduceLT, Nat.reduceLeDiff, Nat.reduceMul, ↓reduceIte, reduceCtorEq]
  refine ⟨fun h => Fin.plain rfl, fun h => ?_⟩
  refine (spec_DrawRunGlobal0 C hC c hc).mono ?_
  rintro x σ' _ ⟨S, L, cap, cap', m, rfl, rfl, ⟨hS8, hS⟩, hL62, hm1, hm2⟩
  obtain ⟨σ, eσ⟩ : ∃ σ : List AB, σ = [.ro (encByte.row C), .rw ty_impl_Task (encTask.row S) (cap * 3), .rw ty_impl_Job (encJob.row L) (cap' * 4)] := ⟨_, rfl⟩
  have hSc : cellsOf σ 1 = some (encTask.row S) := by rw [eσ]; rfl
  have hLc : cellsOf σ 2 = some (encJob.row L) := by rw [eσ]; rfl
  have h0 : 0 < σ.length := by rw [eσ]; simp
  rw [← eσ]
  have rS : ∀ τ, Rd encTask (σ ++ τ) (.sl 1 0 S.length cap) S := fun τ => Rd.own (cells_old hSc τ)
  have rL : ∀ τ, Rd encJob (σ ++ τ) (.sl 2 0 L.length cap') L := fun τ => Rd.own (cells_old hLc τ)
  have hS0 : Rd encTask σ (.sl 1 0 S.length cap) S := Rd.own hSc
  simp only [not_true_eq_false, not_false_eq_true, decide_true, decide_false, Bool.not_true, Bool.not_false, false_implies, true_implies, and_true, true_and, Bool.false_eq_true, Bool.true_eq_false, implies_true, Bool.not_not, Classical.not_not, go_sem, Int.reduceToNat, List.take_nil, Nat.zero_mul, Nat.reduceEqDiff, Nat.reduceAdd, Nat.reduceLT, Nat.reduceLeDiff, Nat.reduceMul, ↓reduceIte, reduceCtorEq]
  refine impl_RunGlobal_ (S := S) (L := L) (by omega) (by omega) hS0 hLc (fun hno τ => ?_) (fun M eM hok τ x hx => ?_)
  · have rS1 : ∀ ω, Rd encTask ((σ ++ τ) ++ ω) (.sl 1 0 S.length cap) S := fun ω => (rS τ).app
    have rL1 : ∀ ω, Rd encJob ((σ ++ τ) ++ ω) (.sl 2 0 L.length cap') L := fun ω => (rL τ).app
    generalize σ ++ τ = H1 at *
    simp only [at_new0, set_new0, not_true_eq_false, not_false_eq_true, decide_true, decide_false, Bool.not_true, Bool.not_false, false_implies, true_implies, and_true, true_and, Bool.false_eq_true, Bool.true_eq_false, implies_true, Bool.not_not, Classical.not_not, go_sem, Int.reduceToNat, List.take_nil, Nat.zero_mul, Nat.reduceEqDiff, Nat.reduceAdd, Nat.reduceLT, Nat.reduceLeDiff, Nat.reduceMul, ↓reduceIte, reduceCtorEq]
    refine spec_RunGlobal_ (S := S) (L := L) (by omega) (by omega) (rS1 _) (rL1 _) (fun _ ω => ?_) (fun M _ hok => absurd hok hno)
    simp only [List.append_assoc, List.cons_append, List.nil_append, at_new0, not_true_eq_false, not_false_eq_true, decide_true, decide_false, Bool.not_true, Bool.not_false, false_implies, true_implies, and_true, true_and, Bool.false_eq_true, Bool.true_eq_false, implies_true, Bool.not_not, Classical.not_not, go_sem, Int.reduceToNat, List.take_nil, Nat.zero_mul, Nat.reduceEqDiff, Nat.reduceAdd, Nat.reduceLT, Nat.reduceLeDiff, Nat.reduceMul, ↓reduceIte, reduceCtorEq]
    refine laws_sameGlobal_ (GlobAns.none (by simp; omega)) (GlobAns.none (by simp; omega)) (by simp) (by simp) (by simp) fun ω2 => ?_
    simp only [List.append_assoc, List.cons_append, List.nil_append, at_new0, not_true_eq_false, not_false_eq_true, decide_true, decide_false, Bool.not_true, Bool.not_false, false_implies, true_implies, and_true, true_and, Bool.false_eq_true, Bool.true_eq_false, implies_true, Bool.not_not, Classical.not_not, go_sem, Int.reduceToNat, List.take_nil, Nat.zero_mul, Nat.reduceEqDiff, Nat.reduceAdd, Nat.reduceLT, Nat.reduceLeDiff, Nat.reduceMul, ↓reduceIte, reduceCtorEq]
    refine ⟨fun _ => ⟨by omega, fun _ => laws_alive_ ?_, fun h0 => absurd (by decide) h0⟩, fun h0 => absurd h0 (by decide)⟩
    simp only [not_true_eq_false, not_false_eq_true, decide_true, decide_false, Bool.not_true, Bool.not_false, false_implies, true_implies, and_true, true_and, Bool.false_eq_true, Bool.true_eq_false, implies_true, Bool.not_not, Classical.not_not, go_sem, Int.reduceToNat, List.take_nil, Nat.zero_mul, Nat.reduceEqDiff, Nat.reduceAdd, Nat.reduceLT, Nat.reduceLeDiff, Nat.reduceMul, ↓reduceIte, reduceCtorEq]
    exact Fin.plain rfl
  · subst eM
    have hM : 1 ≤ (M : Int) ∧ (M : Int) ≤ 5 := hok.2
    have hE := jl_E hok.1
    obtain ⟨v1, v2, rfl, r1, r2⟩ := hx.plain
    have rS1 : ∀ ω, Rd encTask ((σ ++ τ) ++ ω) (.sl 1 0 S.length cap) S := fun ω => (rS τ).app
    have rL1 : ∀ ω, Rd encJob ((σ ++ τ) ++ ω) (.sl 2 0 L.length cap') L := fun ω => (rL τ).app
    have cL1 : ∀ ω, cellsOf ((σ ++ τ) ++ ω) 2 = some (encJob.row L) := fun ω => cells_old (cells_old hLc τ) ω
    have hxp := fun ω => (hx.plain).app (τ := ω)
    clear hx
    generalize σ ++ τ = H1 at *
    simp only [at_new0, set_new0, r1.data, r2.data, not_true_eq_false, not_false_eq_true, decide_true, decide_false, Bool.not_true, Bool.not_false, false_implies, true_implies, and_true, true_and, Bool.false_eq_true, Bool.true_eq_false, implies_true, Bool.not_not, Classical.not_not, go_sem, Int.reduceToNat, List.take_nil, Nat.zero_mul, Nat.reduceEqDiff, Nat.reduceAdd, Nat.reduceLT, Nat.reduceLeDiff, Nat.reduceMul, ↓reduceIte, reduceCtorEq]
    refine spec_RunGlobal_ (S := S) (L := L) (by omega) (by omega) (rS1 _) (rL1 _) (fun hno => absurd hok hno) (fun M2 e2 _ ω y hy => ?_)
    obtain rfl : M = M2 := by omega
    have hy := hy.plain
    simp only [List.append_assoc, List.cons_append, List.nil_append, at_new0, not_true_eq_false, not_false_eq_true, decide_true, decide_false, Bool.not_true, Bool.not_false, false_implies, true_implies, and_true, true_and, Bool.false_eq_true, Bool.true_eq_false, implies_true, Bool.not_not, Classical.not_not, go_sem, Int.reduceToNat, List.take_nil, Nat.zero_mul, Nat.reduceEqDiff, Nat.reduceAdd, Nat.reduceLT, Nat.reduceLeDiff, Nat.reduceMul, ↓reduceIte, reduceCtorEq]
    simp only [List.append_assoc, List.cons_append, List.nil_append] at hy
    have hlf : (gFin L M).length = L.length := (gSt_len L M 120).2
    refine ⟨by rw [hy.data]; rfl, laws_sameGlobal_ (hxp _) hy (by rw [gRows_len]; omega) (by omega) (gRows_row (by omega)) fun ω2 => ?_⟩
    have hlr := gRows_len L M
    rcases r1 with ⟨n1, o1, c1, cs1, rfl, hc1, hl1, hr1⟩ | ⟨_, hz, _⟩
    rotate_left
    · rw [hz] at hlr; cases hlr
    simp only [List.append_assoc, List.cons_append, List.nil_append, at_new0, hlr, not_true_eq_false, not_false_eq_true, decide_true, decide_false, Bool.not_true, Bool.not_false, false_implies, true_implies, and_true, true_and, Bool.false_eq_true, Bool.true_eq_false, implies_true, Bool.not_not, Classical.not_not, go_sem, Int.reduceToNat, List.take_nil, Nat.zero_mul, Nat.reduceEqDiff, Nat.reduceAdd, Nat.reduceLT, Nat.reduceLeDiff, Nat.reduceMul, ↓reduceIte, reduceCtorEq]
    refine ⟨fun h0 => absurd rfl h0, fun _ => ?_⟩
    obtain ⟨G, hG⟩ : ∃ G : List AB, G = H1 ++ AB.rw ty_impl_GlobalRun [AV.sl n1 o1 120 c1, v2] 2 :: (ω ++ ω2) := ⟨_, rfl⟩
    have eG : ∀ b : AB, H1 ++ AB.rw ty_impl_GlobalRun [AV.sl n1 o1 120 c1, v2] 2 :: (ω ++ (ω2 ++ [b])) = G ++ [b] := fun b => by rw [hG]; simp only [List.append_assoc, List.cons_append]
    have eL : H1.length + (ω.length + ω2.length + 1) = G.length := by rw [hG]; simp only [List.length_append, List.length_cons]
    have hgG : G[H1.length]? = some (.rw ty_impl_GlobalRun [AV.sl n1 o1 120 c1, v2] 2) := by rw [hG, at_new0]; rfl
    have hcG : cellsOf G n1 = some cs1 := by rw [hG]; exact cells_old hc1 _
    have hjG : cellsOf G 2 = some (encJob.row L) := by rw [hG]; exact cL1 _
    have hFG : Rd encInt G v2 (gFin L M) := by rw [hG]; exact r2.app
    have hrG : ∀ k, k < 120 → Rd encInt G (rd cs1 (o1 + k)) (natsOf (gRow L M k)) := fun k hk => by
      have := hr1 k (by rw [hlr]; exact hk)
      have e : (gRows L M)[k]'(by rw [hlr]; exact hk) = natsOf (gRow L M k) := by simp [gRows]
      rw [e] at this
      rw [hG]; exact this.app
    rw [eG, eL]
    clear eG eL hG hxp hy hr1 rS1 rL1 cL1 r2
    have ez : rep L.length [AV.i .i64 0] = encInt.row (gSt L M 0).done := encInt.rep 0 _
    rw [ez]
    refine ⟨by omega, ?_⟩
    refine loop_count 120 (fun k => ⟨[(4, .sl 2 0 L.length cap'), (5, .i .i64 M), (6, .p H1.length 0), (7, .sl G.length 0 L.length L.length), (8, .i .i64 k)], G ++ [.rw ty_int (encInt.row (gSt L M k).done) L.length]⟩) (fun _ => True) trivial (Wk.keep (by simp [look_cons])) fun k hkl _ => ?_
    have hcG' := fun τ => cells_old hcG τ
    have hgG' := fun τ => at_old hgG τ
    have hM0 : ((M : Int) < 0) = (M < 0) := propext ⟨fun h => by omega, fun h => by omega⟩
    simp only [l4_laws_FnRunGlobal, hgG', onC_old hcG, hM0, not_true_eq_false, not_false_eq_true, decide_true, decide_false, Bool.not_true, Bool.not_false, false_implies, true_implies, and_true, true_and, Bool.false_eq_true, Bool.true_eq_false, implies_true, Bool.not_not, Classical.not_not, go_sem, Int.reduceToNat, List.take_nil, Nat.zero_mul, Nat.reduceEqDiff, Nat.reduceAdd, Nat.reduceLT, Nat.reduceLeDiff, Nat.reduceMul, ↓reduceIte, reduceCtorEq]
    refine ⟨fun hk => ?_, fun hk => Fin.plain rfl⟩
    have hk' : k < 120 := by omega
    have hr := hrG k hk'
    have hsel := gRow_inv (L := L) (m := M) k
    have hlen := gSt_len L M k
    have hinv := fun i (hi : i < L.length) => gInv (m := M) hE hi k
    refine ⟨by omega, by rw [hlr] at hl1; omega, rd_len hr (fun h => h) ?_⟩
    rw [natsOf_len]
    refine ⟨fun hbad => absurd hbad (by have := hsel.len; omega), fun _ => ?_⟩
    generalize rd cs1 (o1 + k) = vr at hr ⊢
    have hrdy : ∀ i ∈ gRow L M k, i < L.length ∧ (L.getD i default).R ≤ k ∧ gI (gSt L M k).done i < (L.getD i default).E := fun i hi => gRow_rdy hi
    refine gl3 (L := L) (j := 2) (jc := cap') (D := G.length) (g := H1.length) (m := M) (t := k) (vr := vr) (o := gRow L M k) (dn := (gSt L M k).done) (by omega) (cells_old hjG _) (by simp [cellsOf, at_new0]) hlen.1 hr.app hsel.nd hrdy (by have := hsel.len; omega) ?_ fun T1 hT1 => ?_
    · intro x hx
      simp only [keepL, List.mem_cons, List.not_mem_nil, or_false, List.cons_append, List.nil_append] at hx
      rcases hx with rfl | rfl | rfl | rfl | rfl | rfl | rfl <;> simp [look_cons]
    simp only [not_true_eq_false, not_false_eq_true, decide_true, decide_false, Bool.not_true, Bool.not_false, false_implies, true_implies, and_true, true_and, Bool.false_eq_true, Bool.true_eq_false, implies_true, Bool.not_not, Classical.not_not, go_sem, Int.reduceToNat, List.take_nil, Nat.zero_mul, Nat.reduceEqDiff, Nat.reduceAdd, Nat.reduceLT, Nat.reduceLeDiff, Nat.reduceMul, ↓reduceIte, reduceCtorEq]
    refine gl2 (L := L) (j := 2) (jc := cap') (D := G.length) (g := H1.length) (m := M) (t := k) (vr := vr) (o := gRow L M k) (dn := (gSt L M k).done) (by omega) (cells_old hjG _) (by simp [cellsOf, at_new0]) hlen.1 hr.app (fun i hi => (hrdy i hi).1) (by have := hsel.len; omega) (by omega) (by omega) ?_ ?_ fun T2 hT2 => ?_
    · intro i hi h1 h2 h3
      have g1 := (hinv i hi).le
      unfold gDn at g1
      have := hsel.full i hi (decide_eq_true ⟨h1, by omega⟩) h3
      exact ⟨by omega, this.2⟩
    · intro x hx
      rcases List.mem_append.1 hx with hx | hx
      · have := hT1 x hx
        simp only [keepL, List.mem_cons, List.not_mem_nil, or_false] at hx
        rcases hx with rfl | rfl | rfl | rfl | rfl | rfl <;> simpa [look_cons] using this
      · rw [List.mem_singleton.1 hx]; simp [look_cons]
    simp only [not_true_eq_false, not_false_eq_true, decide_true, decide_false, Bool.not_true, Bool.not_false, false_implies, true_implies, and_true, true_and, Bool.false_eq_true, Bool.true_eq_false, implies_true, Bool.not_not, Classical.not_not, go_sem, Int.reduceToNat, List.take_nil, Nat.zero_mul, Nat.reduceEqDiff, Nat.reduceAdd, Nat.reduceLT, Nat.reduceLeDiff, Nat.reduceMul, ↓reduceIte, reduceCtorEq]
    refine gl0 (L := L) (j := 2) (jc := cap') (g := H1.length) (m := M) (t := k) (vr := vr) (o := gRow L M k) (s := gSt L M k) (F := gFin L M) (by omega) hjG hr (fun i hi => (hrdy i hi).1) hsel.nd (by have := hsel.len; omega) (by omega) hlen.1 hlen.2 hgG hFG hlf ?_ ?_ ?_ fun T3 hT3 => ?_
    · intro i hi
      have := gDn_bd (m := M) (hrdy i hi).1 k
      unfold gDn at this; omega
    · exact fun i hi he => gFin_at hE hk' hi he
    · intro x hx
      rcases List.mem_append.1 hx with hx | hx
      · have := hT2 x hx
        simp only [keepL, List.mem_cons, List.not_mem_nil, or_false] at hx
        rcases hx with rfl | rfl | rfl | rfl | rfl | rfl <;> simpa [look_cons] using this
      · rw [List.mem_singleton.1 hx]; simp [look_cons]
    have k4 := hT3 (4, .sl 2 0 L.length cap') (by simp [keepL])
    have k5 := hT3 (5, .i .i64 M) (by simp [keepL])
    have k6 := hT3 (6, .p H1.length 0) (by simp [keepL])
    have k7 := hT3 (7, .sl G.length 0 L.length L.length) (by simp [keepL])
    have k8 := hT3 (8, .i .i64 k) (by simp [keepL])
    simp only at k4 k5 k6 k7 k8
    simp only [k8, not_true_eq_false, not_false_eq_true, decide_true, decide_false, Bool.not_true, Bool.not_false, false_implies, true_implies, and_true, true_and, Bool.false_eq_true, Bool.true_eq_false, implies_true, Bool.not_not, Classical.not_not, go_sem, Int.reduceToNat, List.take_nil, Nat.zero_mul, Nat.reduceEqDiff, Nat.reduceAdd, Nat.reduceLT, Nat.reduceLeDiff, Nat.reduceMul, ↓reduceIte, reduceCtorEq]
    refine ⟨by omega, hk', ?_⟩
    have es : gDo L k (gRow L M k) (gSt L M k) = gSt L M (k + 1) := rfl
    rw [es]
    refine Wk.keep ?_
    intro x hx
    simp only [List.mem_cons, List.not_mem_nil, or_false] at hx
    rcases hx with rfl | rfl | rfl | rfl | rfl <;> simp [look_cons, k4, k5, k6, k7]
theorem c_FnRunGlobal (C : List Nat) (c : Nat) (hC : ∀ x ∈ C, x < 256) (_ : C.length * 1 ≤ 140737488351232) (hc : C.length ≤ c) :
    CallWp Try.prog n_laws_FnRunGlobal [.sl 0 0 C.length c] [.ro (encByte.row C)] (fun x _ => x = .b true) := laws_FnRunGlobal0 C hC c hc
end Go.Proofs.Ytmphblbpofnpaaa
