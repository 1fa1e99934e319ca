import Derived.Test.YtfngcejaphhmmaaDoorS97
namespace Go.Proofs.YtfngcejaphhmmaaDoor
open Go.Abs Go.Ds
set_option linter.unusedSimpArgs false
set_option linter.unusedVariables false
set_option maxRecDepth 20000
set_option maxHeartbeats 2000000
def tAV (t : Task) : AV := .agg [.i .i64 t.C, .i .i64 t.D, .i .i64 t.P]
noncomputable def parseAV (l : List UInt8) : AV := match parseT l with
  | some t => .tup [tAV t, .b true]
  | none => .tup [tAV ⟨0, 0, 0⟩, .b false]
theorem parseAV_some {l : List UInt8} {t : Task} (h : IsLine l t) : parseAV l = .tup [tAV t, .b true] := by unfold parseAV; rw [parse_some h]
theorem parseAV_none {l : List UInt8} (h : ¬ ∃ t, IsLine l t) : parseAV l = .tup [tAV ⟨0, 0, 0⟩, .b false] := by unfold parseAV; rw [parse_none h]
theorem spec_ParseTask0 (l : List UInt8) (hl : l.length ≤ 1000000) : CallWp Tryd.prog n_spec_ParseTask [.s (bs l)] [] (fun x σ => x = parseAV l ∧ σ = []) := by
  refine call_spec_ParseTask (by simp) ?_
  simp only [c_spec_ParseTask, not_true_eq_false, not_false_eq_true, decide_true, decide_false, Bool.not_true, Bool.not_false, false_implies, true_implies, and_true, true_and, Bool.false_eq_true, Bool.true_eq_false, implies_true, Bool.not_not, Classical.not_not, go_sem, Int.reduceToNat, List.take_nil, Nat.zero_mul, Nat.reduceEqDiff, Nat.reduceAdd, Nat.reduceLT, Nat.reduceLeDiff, Nat.reduceMul, ↓reduceIte, reduceCtorEq]
  refine spec_l10Fields_ l hl fun cap cc => ?_
  have hw : (bs [116, 97, 115, 107] : ByteArray) = bs wTask := rfl
  have no : ¬ (l.length ≤ 20 ∧ (fields l).length = 4 ∧ (fields l).getD 0 [] = wTask ∧ (specT (fields l)).ok) → parseAV l = .tup [tAV ⟨0, 0, 0⟩, .b false] := fun h => parseAV_none fun g => h (spec_line.2 g)
  have bad : ∀ σ : List AB, ¬ (l.length ≤ 20 ∧ (fields l).length = 4 ∧ (fields l).getD 0 [] = wTask ∧ (specT (fields l)).ok) → Fin 0 σ (.tup [.agg [.i .i64 0, .i .i64 0, .i .i64 0], .b false]) (fun x σ => x = parseAV l ∧ σ = []) := fun σ h => by
    refine Fin.pick [] (.tup [.agg [.i .i64 0, .i .i64 0, .i .i64 0], .b false]) [] ⟨(no h).symm, rfl⟩
  simp only [hw, bs_inj, not_true_eq_false, not_false_eq_true, decide_true, decide_false, Bool.not_true, Bool.not_false, false_implies, true_implies, and_true, true_and, Bool.false_eq_true, Bool.true_eq_false, implies_true, Bool.not_not, Classical.not_not, go_sem, Int.reduceToNat, List.take_nil, Nat.zero_mul, Nat.reduceEqDiff, Nat.reduceAdd, Nat.reduceLT, Nat.reduceLeDiff, Nat.reduceMul, ↓reduceIte, reduceCtorEq]
  refine ⟨fun h20 => ⟨fun h4 => ?_, fun h4 => bad _ fun h => h4 (by omega)⟩, fun h20 => bad _ fun h => by omega⟩
  match hf : fields l, (show (fields l).length = 4 by omega) with
  | [a, b, c, d], _ =>
    have hrow : encStr.row [a, b, c, d] = [.s (bs a), .s (bs b), .s (bs c), .s (bs d)] := rfl
    rw [hf] at bad no
    simp only [hrow, bs_inj, List.length_cons, List.length_nil, not_true_eq_false, not_false_eq_true, decide_true, decide_false, Bool.not_true, Bool.not_false, false_implies, true_implies, and_true, true_and, Bool.false_eq_true, Bool.true_eq_false, implies_true, Bool.not_not, Classical.not_not, go_sem, Int.reduceToNat, List.take_nil, Nat.zero_mul, Nat.reduceEqDiff, Nat.reduceAdd, Nat.reduceLT, Nat.reduceLeDiff, Nat.reduceMul, ↓reduceIte, reduceCtorEq]
    refine ⟨by omega, fun hne => bad _ fun h => hne h.2.2.1, fun he => ?_⟩
    subst he
    refine seq_join (fun _ : Unit => ⟨[(2, .p 0 0), (3, .b false), (5, .p 2 0)], [.rw ty_impl_Task [.i .i64 0, .i .i64 0, .i .i64 0] 3, .rw ty_string [.s (bs wTask), .s (bs b), .s (bs c), .s (bs d)] cc, .rw ty_impl_Task [.i .i64 (num10 b), .i .i64 (num10 c), .i .i64 (num10 d)] 3]⟩) (fun _ => True) ?_ ?_
    · simp only [not_true_eq_false, not_false_eq_true, decide_true, decide_false, Bool.not_true, Bool.not_false, false_implies, true_implies, and_true, true_and, Bool.false_eq_true, Bool.true_eq_false, implies_true, Bool.not_not, Classical.not_not, go_sem, Int.reduceToNat, List.take_nil, Nat.zero_mul, Nat.reduceEqDiff, Nat.reduceAdd, Nat.reduceLT, Nat.reduceLeDiff, Nat.reduceMul, ↓reduceIte, reduceCtorEq]
      repeat' first
        | omega
        | exact kJ_intro () trivial (Wk.pick [0, 1, 2])
        | (refine spec_l10Num_ _ ?_; simp only [not_true_eq_false, not_false_eq_true, decide_true, decide_false, Bool.not_true, Bool.not_false, false_implies, true_implies, and_true, true_and, Bool.false_eq_true, Bool.true_eq_false, implies_true, Bool.not_not, Classical.not_not, go_sem, Int.reduceToNat, List.take_nil, Nat.zero_mul, Nat.reduceEqDiff, Nat.reduceAdd, Nat.reduceLT, Nat.reduceLeDiff, Nat.reduceMul, ↓reduceIte, reduceCtorEq])
        | refine ⟨?_, ?_⟩
    · rintro _ _
      simp only [not_true_eq_false, not_false_eq_true, decide_true, decide_false, Bool.not_true, Bool.not_false, false_implies, true_implies, and_true, true_and, Bool.false_eq_true, Bool.true_eq_false, implies_true, Bool.not_not, Classical.not_not, go_sem, Int.reduceToNat, List.take_nil, Nat.zero_mul, Nat.reduceEqDiff, Nat.reduceAdd, Nat.reduceLT, Nat.reduceLeDiff, Nat.reduceMul, ↓reduceIte, reduceCtorEq]
      refine spec_TaskValid_ ⟨num10 b, num10 c, num10 d⟩ ?_
      simp only [not_true_eq_false, not_false_eq_true, decide_true, decide_false, Bool.not_true, Bool.not_false, false_implies, true_implies, and_true, true_and, Bool.false_eq_true, Bool.true_eq_false, implies_true, Bool.not_not, Classical.not_not, go_sem, Int.reduceToNat, List.take_nil, Nat.zero_mul, Nat.reduceEqDiff, Nat.reduceAdd, Nat.reduceLT, Nat.reduceLeDiff, Nat.reduceMul, ↓reduceIte, reduceCtorEq]
      have eT : specT [wTask, b, c, d] = ⟨num10 b, num10 c, num10 d⟩ := rfl
      refine ⟨fun hno => bad _ fun h => hno (by rw [← eT]; exact h.2.2.2), fun hok => ?_⟩
      obtain ⟨t, ht⟩ := spec_line.1 (⟨by omega, by rw [hf]; rfl, by rw [hf]; rfl, by rw [hf, eT]; exact hok⟩ : l.length ≤ 20 ∧ (fields l).length = 4 ∧ (fields l).getD 0 [] = wTask ∧ (specT (fields l)).ok)
      have e := spec_task ht
      rw [hf, eT] at e
      rw [parseAV_some ht, ← e]
      exact Fin.pick [] (.tup [.agg [.i .i64 (num10 b), .i .i64 (num10 c), .i .i64 (num10 d)], .b true]) [] ⟨rfl, rfl⟩
theorem spec_ParseTask_ (l : List UInt8) (hl : l.length ≤ 1000000) {σ : List AB} {K : AV → List AB → Prop} (hk : K (parseAV l) σ) : CallWp Tryd.prog n_spec_ParseTask [.s (bs l)] σ K := by
  refine call_news [] (by simp) (fun _ => [.s (bs l)]) (fun x τ => x = parseAV l ∧ τ = []) (fun _ => (spec_ParseTask0 l hl).mono fun x σ _ h => ⟨[], by rw [h.2]; rfl, h.1, rfl⟩) ?_ (fun ν c h => ⟨.inl rfl, trivial⟩) (fun _ => rfl) ?_
  · rintro x τ ⟨rfl, rfl⟩
    unfold parseAV
    split <;> simp [freshA, fresh1A, freshC, tAV, flat]
  · rintro x τ ⟨rfl, rfl⟩
    rw [List.append_nil]
    have : shift 0 σ.length (parseAV l) = parseAV l := by unfold parseAV; split <;> rfl
    show K (shift 0 σ.length (parseAV l)) σ
    rw [this]; exact hk
/-! ### the program's -/
theorem field_len {l : List UInt8} {a b c d : List UInt8} (h : fields l = [a, b, c, d]) : a.length + b.length + c.length + d.length + 3 = l.length := by
  rw [← join_fields l, h]
  simp only [joinS, List.length_append, List.length_cons]; omega
theorem impl_PT1_ {σ : List AB} {q n len cap g : Nat} {F : List (List UInt8)} {ev : Value} {i : Nat} (hi : i < F.length) (hl : F.length = len) (h18 : (F[i]).length ≤ 18) (h1 : cellsOf σ q = some [.sl n 0 len cap]) (h2 : cellsOf σ n = some (encStr.row F))
    (hg : σ[g]? = some (.gl (laysC172_ren.g 15) ev)) (hev : ev = .nilIface ∨ ∃ te pe, ev = .iface te pe) {K : AV → List AB → Prop} (hk : K (.i .i64 (aNum F[i])) σ) : CallWp Tryd.prog n_impl_ParseTask_1 [.i .i64 i, .p q 0] σ K := by
  subst hl
  refine call_impl_ParseTask_1 (by simp) ?_
  simp only [c_impl_ParseTask_1, onC_of h1, onC_of h2, rdS hi, lenS, not_true_eq_false, not_false_eq_true, decide_true, decide_false, Bool.not_true, Bool.not_false, false_implies, true_implies, and_true, true_and, Bool.false_eq_true, Bool.true_eq_false, implies_true, Bool.not_not, Classical.not_not, go_sem, Int.reduceToNat, List.take_nil, Nat.zero_mul, Nat.reduceEqDiff, Nat.reduceAdd, Nat.reduceLT, Nat.reduceLeDiff, Nat.reduceMul, ↓reduceIte, reduceCtorEq]
  refine ⟨hi, hi, strconv_Atoi_ F[i] h18 hg hev (fun n hn => ?_) fun hn t v => ?_⟩
  · simp only [not_true_eq_false, not_false_eq_true, decide_true, decide_false, Bool.not_true, Bool.not_false, false_implies, true_implies, and_true, true_and, Bool.false_eq_true, Bool.true_eq_false, implies_true, Bool.not_not, Classical.not_not, go_sem, Int.reduceToNat, List.take_nil, Nat.zero_mul, Nat.reduceEqDiff, Nat.reduceAdd, Nat.reduceLT, Nat.reduceLeDiff, Nat.reduceMul, ↓reduceIte, reduceCtorEq]
    have : aNum F[i] = n := by unfold aNum; rw [hn]; rfl
    rw [← this]
    exact Fin.plain hk
  · simp only [not_true_eq_false, not_false_eq_true, decide_true, decide_false, Bool.not_true, Bool.not_false, false_implies, true_implies, and_true, true_and, Bool.false_eq_true, Bool.true_eq_false, implies_true, Bool.not_not, Classical.not_not, go_sem, Int.reduceToNat, List.take_nil, Nat.zero_mul, Nat.reduceEqDiff, Nat.reduceAdd, Nat.reduceLT, Nat.reduceLeDiff, Nat.reduceMul, ↓reduceIte, reduceCtorEq]
    have : aNum F[i] = 0 := by unfold aNum; rw [hn]; rfl
    rw [this] at hk
    exact Fin.plain hk
theorem impl_ParseTask_ {σ : List AB} {l : List UInt8} (hl : l.length ≤ 1000000) {g : Nat} {ev : Value} (hg : σ[g]? = some (.gl (laysC172_ren.g 15) ev)) (hev : ev = .nilIface ∨ ∃ te pe, ev = .iface te pe) {K : AV → List AB → Prop} (hk : K (parseAV l) σ) : CallWp Tryd.prog n_impl_ParseTask [.s (bs l)] σ K := by
  refine callC_impl_ParseTask (by simp) fun hC hA => ?_
  simp only [c_impl_ParseTask, not_true_eq_false, not_false_eq_true, decide_true, decide_false, Bool.not_true, Bool.not_false, false_implies, true_implies, and_true, true_and, Bool.false_eq_true, Bool.true_eq_false, implies_true, Bool.not_not, Classical.not_not, go_sem, Int.reduceToNat, List.take_nil, Nat.zero_mul, Nat.reduceEqDiff, Nat.reduceAdd, Nat.reduceLT, Nat.reduceLeDiff, Nat.reduceMul, ↓reduceIte, reduceCtorEq]
  refine strings_Split_ l (by omega) ?_
  simp only [List.append_assoc, List.cons_append, List.nil_append, at_new, at_new0, set_new, set_new0, not_true_eq_false, not_false_eq_true, decide_true, decide_false, Bool.not_true, Bool.not_false, false_implies, true_implies, and_true, true_and, Bool.false_eq_true, Bool.true_eq_false, implies_true, Bool.not_not, Classical.not_not, go_sem, Int.reduceToNat, List.take_nil, Nat.zero_mul, Nat.reduceEqDiff, Nat.reduceAdd, Nat.reduceLT, Nat.reduceLeDiff, Nat.reduceMul, ↓reduceIte, reduceCtorEq]
  have hcl : ∀ τ, belowT σ.length (AV.tup [tAV τ, .b true]) = true ∧ belowT σ.length (AV.tup [tAV τ, .b false]) = true := fun τ => by simp [belowT, below1, below, tAV]
  have bad : ¬ (l.length ≤ 20 ∧ (fields l).length = 4 ∧ fmtT (implT (fields l)) = l) → ∀ τ : List AB, Fin σ.length (σ ++ τ) (.tup [.agg [.i .i64 0, .i .i64 0, .i .i64 0], .b false]) K := fun h τ => by
    have e : parseAV l = .tup [.agg [.i .i64 0, .i .i64 0, .i .i64 0], .b false] := parseAV_none fun g => h (impl_line.2 g)
    rw [e] at hk
    exact Fin.drop hC (Nat.le_refl _) (hcl ⟨0, 0, 0⟩).2 hk
  refine ⟨fun h20 => ⟨fun h4 => bad (fun h => h4 (by omega)) _, fun h4 => ?_⟩, fun h20 => bad (fun h => by omega) _⟩
  match hf : fields l, (show (fields l).length = 4 by omega) with
  | [a, b, c, d], _ =>
    have hlen := field_len hf
    rw [hf] at bad
    simp only [List.length_cons, List.length_nil, not_true_eq_false, not_false_eq_true, decide_true, decide_false, Bool.not_true, Bool.not_false, false_implies, true_implies, and_true, true_and, Bool.false_eq_true, Bool.true_eq_false, implies_true, Bool.not_not, Classical.not_not, go_sem, Int.reduceToNat, List.take_nil, Nat.zero_mul, Nat.reduceEqDiff, Nat.reduceAdd, Nat.reduceLT, Nat.reduceLeDiff, Nat.reduceMul, ↓reduceIte, reduceCtorEq]
    have hw : ∀ τ : List AB, (σ ++ τ)[g]? = some (.gl (laysC172_ren.g 15) ev) := fun τ => at_old hg τ
    have q : ∀ x y z : AB, ∀ τ, (σ ++ x :: y :: z :: τ)[σ.length + 1]? = some y ∧ (σ ++ x :: y :: z :: τ)[σ.length + 2]? = some z := fun x y z τ => by simp
    have P1 : ∀ (x : AB) (τ : List AB) {i : Nat} (hi : i < [a, b, c, d].length) {K' : AV → List AB → Prop}, (∀ w ∈ [a, b, c, d], w.length ≤ 18) → K' (.i .i64 (aNum [a, b, c, d][i])) (σ ++ x :: .rw ty_string (encStr.row [a, b, c, d]) 4 :: .rw ty_sl_string [.sl (σ.length + 1) 0 4 4] 1 :: τ) →
        CallWp Tryd.prog n_impl_ParseTask_1 [.i .i64 i, .p (σ.length + 2) 0] (σ ++ x :: .rw ty_string (encStr.row [a, b, c, d]) 4 :: .rw ty_sl_string [.sl (σ.length + 1) 0 4 4] 1 :: τ) K' := fun x τ i hi K' hw18 hK => by
      refine impl_PT1_ (F := [a, b, c, d]) (n := σ.length + 1) (cap := 4) hi rfl (hw18 _ (List.getElem_mem _)) ?_ ?_ (hw _) hev hK
      · rw [cellsOf, (q _ _ _ _).2]; rfl
      · rw [cellsOf, (q _ _ _ _).1]
    have h18 : ∀ w ∈ [a, b, c, d], w.length ≤ 18 := by
      intro w hw
      simp only [List.mem_cons, List.not_mem_nil, or_false] at hw
      rcases hw with rfl | rfl | rfl | rfl <;> omega
    refine P1 _ [] (i := 1) (by simp) h18 ?_
    simp only [not_true_eq_false, not_false_eq_true, decide_true, decide_false, Bool.not_true, Bool.not_false, false_implies, true_implies, and_true, true_and, Bool.false_eq_true, Bool.true_eq_false, implies_true, Bool.not_not, Classical.not_not, go_sem, Int.reduceToNat, List.take_nil, Nat.zero_mul, Nat.reduceEqDiff, Nat.reduceAdd, Nat.reduceLT, Nat.reduceLeDiff, Nat.reduceMul, ↓reduceIte, reduceCtorEq]
    refine P1 _ [] (i := 2) (by simp) h18 ?_
    simp only [not_true_eq_false, not_false_eq_true, decide_true, decide_false, Bool.not_true, Bool.not_false, false_implies, true_implies, and_true, true_and, Bool.false_eq_true, Bool.true_eq_false, implies_true, Bool.not_not, Classical.not_not, go_sem, Int.reduceToNat, List.take_nil, Nat.zero_mul, Nat.reduceEqDiff, Nat.reduceAdd, Nat.reduceLT, Nat.reduceLeDiff, Nat.reduceMul, ↓reduceIte, reduceCtorEq]
    refine P1 _ [] (i := 3) (by simp) h18 ?_
    simp only [List.append_assoc, List.cons_append, List.nil_append, at_new, at_new0, set_new, set_new0, List.getElem_cons_succ, List.getElem_cons_zero, not_true_eq_false, not_false_eq_true, decide_true, decide_false, Bool.not_true, Bool.not_false, false_implies, true_implies, and_true, true_and, Bool.false_eq_true, Bool.true_eq_false, implies_true, Bool.not_not, Classical.not_not, go_sem, Int.reduceToNat, List.take_nil, Nat.zero_mul, Nat.reduceEqDiff, Nat.reduceAdd, Nat.reduceLT, Nat.reduceLeDiff, Nat.reduceMul, ↓reduceIte, reduceCtorEq]
    refine impl_FormatTask_ ⟨aNum b, aNum c, aNum d⟩ ?_
    have eT : implT [a, b, c, d] = ⟨aNum b, aNum c, aNum d⟩ := rfl
    simp only [List.append_assoc, List.cons_append, List.nil_append, at_new, at_new0, set_new, set_new0, bs_inj, not_true_eq_false, not_false_eq_true, decide_true, decide_false, Bool.not_true, Bool.not_false, false_implies, true_implies, and_true, true_and, Bool.false_eq_true, Bool.true_eq_false, implies_true, Bool.not_not, Classical.not_not, go_sem, Int.reduceToNat, List.take_nil, Nat.zero_mul, Nat.reduceEqDiff, Nat.reduceAdd, Nat.reduceLT, Nat.reduceLeDiff, Nat.reduceMul, ↓reduceIte, reduceCtorEq]
    refine ⟨fun hne => bad (fun h => hne (by rw [← eT]; exact h.2.2)) _, fun he => ?_⟩
    obtain ⟨t, ht⟩ := impl_line.1 (⟨by omega, by rw [hf]; rfl, by rw [hf, eT]; exact he⟩ : l.length ≤ 20 ∧ (fields l).length = 4 ∧ fmtT (implT (fields l)) = l)
    have e := impl_task ht
    rw [hf, eT] at e
    rw [parseAV_some ht, ← e] at hk
    exact Fin.drop hC (Nat.le_refl _) (hcl ⟨aNum b, aNum c, aNum d⟩).1 hk
end Go.Proofs.YtfngcejaphhmmaaDoor
