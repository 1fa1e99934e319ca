import Derived.Test.YtnlciginmeebhaaS59
import Derived.Test.YtnlciginmeebhaaS61
import Derived.Test.YtnlciginmeebhaaE2
namespace Go.Proofs.Ytnlciginmeebhaa
open Go.Abs Go.Ds
set_option linter.unusedSimpArgs false
set_option linter.unusedVariables false
set_option maxRecDepth 20000
set_option maxHeartbeats 2000000
def RdL (σ : List AB) (v : AV) (R : List (List Int)) : Prop :=
  (∃ n o cap cs, v = .sl n o R.length cap ∧ cellsOf σ n = some cs ∧ o + R.length ≤ cs.length ∧ ∀ k (h : k < R.length), Rd encInt σ (rd cs (o + k)) R[k]) ∨ (v = .sn ∧ R = [] ∧ 0 < σ.length)
theorem RdL.app {σ τ : List AB} {v : AV} {R : List (List Int)} (h : RdL σ v R) : RdL (σ ++ τ) v R := by
  rcases h with ⟨n, o, cap, cs, h1, h2, h3, h4⟩ | ⟨h1, h2, h3⟩
  · exact .inl ⟨n, o, cap, cs, h1, cells_old h2 τ, h3, fun k hk => (h4 k hk).app⟩
  · exact .inr ⟨h1, h2, by rw [List.length_append]; omega⟩
theorem RdL.data {σ : List AB} {v : AV} {R : List (List Int)} (h : RdL σ v R) : v.data = true := by
  rcases h with ⟨n, o, cap, cs, rfl, _⟩ | ⟨rfl, _⟩ <;> rfl
def SrvAns (σ : List AB) (x : AV) (run fin ch : List Int) (sd : List (List Int)) : Prop :=
  ∃ v1 v2 v3 v4, x = .agg [v1, v2, v3, v4] ∧ Rd encInt σ v1 run ∧ Rd encInt σ v2 fin ∧ Rd encInt σ v3 ch ∧ RdL σ v4 sd
theorem SrvAns.app {σ τ : List AB} {x : AV} {run fin ch : List Int} {sd : List (List Int)} (h : SrvAns σ x run fin ch sd) : SrvAns (σ ++ τ) x run fin ch sd := by
  obtain ⟨v1, v2, v3, v4, h0, h1, h2, h3, h4⟩ := h
  exact ⟨v1, v2, v3, v4, h0, h1.app, h2.app, h3.app, h4.app⟩
def SrvAnsN (N : Nat) (σ : List AB) (x : AV) (run fin ch : List Int) (sd : List (List Int)) : Prop :=
  ∀ σ', σ'.length = σ.length → (∀ n, N ≤ n → σ'[n]? = σ[n]?) → SrvAns σ' x run fin ch sd
theorem SrvAnsN.set {N n : Nat} {σ : List AB} {x : AV} {run fin ch : List Int} {sd : List (List Int)} (h : SrvAnsN N σ x run fin ch sd) (hn : n < N) (B : AB) : SrvAns (σ.set n B) x run fin ch sd :=
  h _ (List.length_set ..) fun k hk => by rw [List.getElem?_set_ne (by omega)]
theorem SrvAnsN.plain {N : Nat} {σ : List AB} {x : AV} {run fin ch : List Int} {sd : List (List Int)} (h : SrvAnsN N σ x run fin ch sd) : SrvAns σ x run fin ch sd := h _ rfl fun _ _ => rfl
def srvRunOk (S : List Task) (L : List Job) (X : List Srv) (AA : List (List Arr)) : Prop := jobsLegal S L ∧ srvOk X ∧ arrsOk X AA
theorem Rd.own' {α : Type} {E : Enc α} {σ : List AB} {n len cap : Nat} {L : List α} (h : cellsOf σ n = some (E.row L)) (hl : L.length = len) : Rd E σ (.sl n 0 len cap) L := by subst hl; exact Rd.own h
theorem rep_sn_mem (n : Nat) : ∀ x ∈ rep n [AV.sn], x = .sn := by
  induction n with
  | zero => intro x hx; simp [rep] at hx
  | succ n ih =>
    intro x hx
    simp only [rep, List.singleton_append, List.mem_cons] at hx
    rcases hx with rfl | hx
    · rfl
    · exact ih x hx
theorem rep_sn_ren (n : Nat) (ν : Nat → Nat × Nat) : (rep n [AV.sn]).map (renC ν) = rep n [AV.sn] := by
  apply List.ext_getElem
  · simp
  · intro i h1 h2
    rw [List.getElem_map, rep_sn_mem n _ (List.getElem_mem h2)]; rfl
theorem rep_sn_bel (n N : Nat) : (rep n [AV.sn]).all (below N) = true := List.all_eq_true.2 fun x hx => by rw [rep_sn_mem n x hx]; rfl
theorem impl_RunServers_ {σ : List AB} {S : List Task} {L : List Job} {X : List Srv} {AA : List (List Arr)} {v : AV} {j c xn xo xc an ao ac : Nat} {K : AV → List AB → Prop} (hs : S.length ≤ 1000000) (hl : L.length ≤ 1000) (hx : X.length ≤ 1000) (ha : AA.length ≤ 1000) (haa : ∀ A ∈ AA, A.length ≤ 1000)
    (hS : Rd encTask σ v S) (hj : cellsOf σ j = some (encJob.row L)) (hX : Rd encSrv σ (.sl xn xo X.length xc) X) (hA : RdA σ (.sl an ao AA.length ac) AA)
    (hn : ¬ srvRunOk S L X AA → ∀ τ, K (.agg [.sn, .sn, .sn, .sn]) (σ ++ τ))
    (hy : srvRunOk S L X AA → ∀ τ x, SrvAnsN σ.length (σ ++ τ) x (srvRun X AA L) (srvFin X AA L) (srvCh X AA L) (srvSd X AA L) → K x (σ ++ τ)) :
    CallWp Try.prog n_impl_RunServers [v, .sl j 0 L.length c, .sl xn xo X.length xc, .sl an ao AA.length ac] σ K := by
  refine callC_impl_RunServers (by simp) fun hC hArgs => ?_
  simp only [c_impl_RunServers, hS.data, hX.data, hA.data, List.append_assoc, at_new, at_new0, set_new, set_new0, not_true_eq_false, not_false_eq_true, decide_true, decide_false, Bool.not_true, Bool.not_false, false_implies, true_implies, and_true, true_and, Bool.false_eq_true, Bool.true_eq_false, implies_true, Bool.not_not, Classical.not_not, go_sem, Int.reduceToNat, List.take_nil, Nat.zero_mul, Nat.reduceEqDiff, Nat.reduceAdd, Nat.reduceLT, Nat.reduceLeDiff, Nat.reduceMul, ↓reduceIte, reduceCtorEq]
  have hjn : j < σ.length := cells_lt hj
  have hxn : xn < σ.length := by
    rcases hX with ⟨n, o, cap, cs, e, h, _⟩ | ⟨e, _⟩
    · cases e; exact h
    · cases e
  have han : an < σ.length := by
    rcases hA with ⟨n, o, cap, cs, e, h, _⟩ | ⟨e, _⟩
    · cases e; exact cells_lt h
    · cases e
  have no : ¬ srvRunOk S L X AA → Fin σ.length (σ ++ [.rw ty_sl_impl_Job [.sl j 0 L.length c] 1, .rw ty_impl_ServerRun [.sn, .sn, .sn, .sn] 4]) (.agg [.sn, .sn, .sn, .sn]) K := fun h => Fin.plain (hn h _)
  refine impl_JobsLegal_ (S := S) (L := L) (by omega) (by omega) hS.app (Rd.app (Rd.own hj)) ?_
  simp only [List.append_assoc, at_new, at_new0, set_new, set_new0, not_true_eq_false, not_false_eq_true, decide_true, decide_false, Bool.not_true, Bool.not_false, false_implies, true_implies, and_true, true_and, Bool.false_eq_true, Bool.true_eq_false, implies_true, Bool.not_not, Classical.not_not, go_sem, Int.reduceToNat, List.take_nil, Nat.zero_mul, Nat.reduceEqDiff, Nat.reduceAdd, Nat.reduceLT, Nat.reduceLeDiff, Nat.reduceMul, ↓reduceIte, reduceCtorEq]
  refine ⟨fun h1 => ?_, fun h1 => ?_⟩
  · refine impl_ServersValid_ (L := X) (by omega) hX.app ?_
    simp only [at_new, at_new0, set_new, set_new0, not_true_eq_false, not_false_eq_true, decide_true, decide_false, Bool.not_true, Bool.not_false, false_implies, true_implies, and_true, true_and, Bool.false_eq_true, Bool.true_eq_false, implies_true, Bool.not_not, Classical.not_not, go_sem, Int.reduceToNat, List.take_nil, Nat.zero_mul, Nat.reduceEqDiff, Nat.reduceAdd, Nat.reduceLT, Nat.reduceLeDiff, Nat.reduceMul, ↓reduceIte, reduceCtorEq]
    refine ⟨fun h2 => ⟨fun h3 => ?_, fun h3 => no fun h => h3 h.2.2.1⟩, fun h2 => no fun h => h2 h.2.1⟩
    refine slices_ContainsFunc_AA_ (by omega) hA.app (fun A => !decide (arrLegal A)) (fun A hAm u hu K hk => impl_RunServers_1_ (by have := haa A hAm; omega) hu hk) ?_
    simp only [at_new, at_new0, set_new, set_new0, not_true_eq_false, not_false_eq_true, decide_true, decide_false, Bool.not_true, Bool.not_false, false_implies, true_implies, and_true, true_and, Bool.false_eq_true, Bool.true_eq_false, implies_true, Bool.not_not, Classical.not_not, go_sem, Int.reduceToNat, List.take_nil, Nat.zero_mul, Nat.reduceEqDiff, Nat.reduceAdd, Nat.reduceLT, Nat.reduceLeDiff, Nat.reduceMul, ↓reduceIte, reduceCtorEq]
    refine ⟨fun h4 => no fun h => ?_, fun h4 => ?_⟩
    · obtain ⟨A, hAm, hAl⟩ := h4
      exact of_decide_eq_true hAl (h.2.2.2 A hAm)
    have hok : srvRunOk S L X AA := ⟨h1, h2, h3, fun A hAm => Classical.byContradiction fun hnn => h4 ⟨A, hAm, by simpa using hnn⟩⟩
    obtain ⟨ch0, hch0⟩ : ∃ ch0 : List Int, ch0 = List.replicate 120 (-1) := ⟨_, rfl⟩
    refine seq_join (fun cc : Nat => ⟨[(2, .sl xn xo X.length xc), (3, .sl an ao AA.length ac), (5, .p σ.length 0), (8, .p (σ.length + 1) 0), (9, .p (σ.length + 4) 0)],
      σ ++ [.rw ty_sl_impl_Job [.sl j 0 L.length c] 1, .rw ty_impl_ServerRun [.sn, .sn, .sn, .sn] 4, .rw ty_int (encInt.row ch0) cc, .rw ty_sl_int (rep X.length [.sn]) X.length, .rw ty_impl_ServerRun [.sn, .sn, .sl (σ.length + 2) 0 120 cc, .sl (σ.length + 3) 0 X.length X.length] 4]⟩)
      (fun _ => True) ?_ fun cc _ => ?_
    · simp only [List.append_assoc, at_new, at_new0, set_new, set_new0, not_true_eq_false, not_false_eq_true, decide_true, decide_false, Bool.not_true, Bool.not_false, false_implies, true_implies, and_true, true_and, Bool.false_eq_true, Bool.true_eq_false, implies_true, Bool.not_not, Classical.not_not, go_sem, Int.reduceToNat, List.take_nil, Nat.zero_mul, Nat.reduceEqDiff, Nat.reduceAdd, Nat.reduceLT, Nat.reduceLeDiff, Nat.reduceMul, ↓reduceIte, reduceCtorEq]
      repeat' first
        | omega
        | (refine impl_none_ 120 (by omega) fun cc => ?_; simp only [← hch0, List.append_assoc, at_new, at_new0, set_new, set_new0, not_true_eq_false, not_false_eq_true, decide_true, decide_false, Bool.not_true, Bool.not_false, false_implies, true_implies, and_true, true_and, Bool.false_eq_true, Bool.true_eq_false, implies_true, Bool.not_not, Classical.not_not, go_sem, Int.reduceToNat, List.take_nil, Nat.zero_mul, Nat.reduceEqDiff, Nat.reduceAdd, Nat.reduceLT, Nat.reduceLeDiff, Nat.reduceMul, ↓reduceIte, reduceCtorEq])
        | (refine kJ_intro cc trivial (Wk.pickH hC (Nat.le_refl _) [0, 1, 2, 3, 4] ?hT ?hτ ?hf)
           case hτ => simp [renB, renC, gR_new, gR_new0, gR_lt hjn, pickB, Enc.row_ren, rep_sn_ren]; done
           case hf => simp [Go.Abs.cellsIn, Enc.row_bel, Go.Abs.below, rep_sn_bel] <;> omega
           case hT =>
             intro p hp
             simp only [List.mem_cons, List.not_mem_nil, or_false] at hp
             rcases hp with rfl | rfl | rfl | rfl | rfl <;> simp [look_cons, Go.Abs.belowT, Go.Abs.below1, Go.Abs.below, Go.Abs.sees, Go.Abs.ren, Go.Abs.ren1, Go.Abs.renC, gR_new, gR_new0, gR_lt hxn, gR_lt han] <;> omega)
        | (refine kJ_intro cc trivial (Wk.pickH hC (Nat.le_refl _) [0, 1, 2, 4, 3] ?hT ?hτ ?hf)
           case hτ => simp [renB, renC, gR_new, gR_new0, gR_lt hjn, pickB, Enc.row_ren, rep_sn_ren]; done
           case hf => simp [Go.Abs.cellsIn, Enc.row_bel, Go.Abs.below, rep_sn_bel] <;> omega
           case hT =>
             intro p hp
             simp only [List.mem_cons, List.not_mem_nil, or_false] at hp
             rcases hp with rfl | rfl | rfl | rfl | rfl <;> simp [look_cons, Go.Abs.belowT, Go.Abs.below1, Go.Abs.below, Go.Abs.sees, Go.Abs.ren, Go.Abs.ren1, Go.Abs.renC, gR_new, gR_new0, gR_lt hxn, gR_lt han] <;> omega)
        | (refine kJ_intro cc trivial (Wk.pickH hC (Nat.le_refl _) [0, 1, 3, 2, 4] ?hT ?hτ ?hf)
           case hτ => simp [renB, renC, gR_new, gR_new0, gR_lt hjn, pickB, Enc.row_ren, rep_sn_ren]; done
           case hf => simp [Go.Abs.cellsIn, Enc.row_bel, Go.Abs.below, rep_sn_bel] <;> omega
           case hT =>
             intro p hp
             simp only [List.mem_cons, List.not_mem_nil, or_false] at hp
             rcases hp with rfl | rfl | rfl | rfl | rfl <;> simp [look_cons, Go.Abs.belowT, Go.Abs.below1, Go.Abs.below, Go.Abs.sees, Go.Abs.ren, Go.Abs.ren1, Go.Abs.renC, gR_new, gR_new0, gR_lt hxn, gR_lt han] <;> omega)
        | (refine kJ_intro cc trivial (Wk.pickH hC (Nat.le_refl _) [0, 1, 4, 2, 3] ?hT ?hτ ?hf)
           case hτ => simp [renB, renC, gR_new, gR_new0, gR_lt hjn, pickB, Enc.row_ren, rep_sn_ren]; done
           case hf => simp [Go.Abs.cellsIn, Enc.row_bel, Go.Abs.below, rep_sn_bel] <;> omega
           case hT =>
             intro p hp
             simp only [List.mem_cons, List.not_mem_nil, or_false] at hp
             rcases hp with rfl | rfl | rfl | rfl | rfl <;> simp [look_cons, Go.Abs.belowT, Go.Abs.below1, Go.Abs.below, Go.Abs.sees, Go.Abs.ren, Go.Abs.ren1, Go.Abs.renC, gR_new, gR_new0, gR_lt hxn, gR_lt han] <;> omega)
        | (refine kJ_intro cc trivial (Wk.pickH hC (Nat.le_refl _) [0, 1, 3, 4, 2] ?hT ?hτ ?hf)
           case hτ => simp [renB, renC, gR_new, gR_new0, gR_lt hjn, pickB, Enc.row_ren, rep_sn_ren]; done
           case hf => simp [Go.Abs.cellsIn, Enc.row_bel, Go.Abs.below, rep_sn_bel] <;> omega
           case hT =>
             intro p hp
             simp only [List.mem_cons, List.not_mem_nil, or_false] at hp
             rcases hp with rfl | rfl | rfl | rfl | rfl <;> simp [look_cons, Go.Abs.belowT, Go.Abs.below1, Go.Abs.below, Go.Abs.sees, Go.Abs.ren, Go.Abs.ren1, Go.Abs.renC, gR_new, gR_new0, gR_lt hxn, gR_lt han] <;> omega)
        | (refine kJ_intro cc trivial (Wk.pickH hC (Nat.le_refl _) [0, 1, 4, 3, 2] ?hT ?hτ ?hf)
           case hτ => simp [renB, renC, gR_new, gR_new0, gR_lt hjn, pickB, Enc.row_ren, rep_sn_ren]; done
           case hf => simp [Go.Abs.cellsIn, Enc.row_bel, Go.Abs.below, rep_sn_bel] <;> omega
           case hT =>
             intro p hp
             simp only [List.mem_cons, List.not_mem_nil, or_false] at hp
             rcases hp with rfl | rfl | rfl | rfl | rfl <;> simp [look_cons, Go.Abs.belowT, Go.Abs.below1, Go.Abs.below, Go.Abs.sees, Go.Abs.ren, Go.Abs.ren1, Go.Abs.renC, gR_new, gR_new0, gR_lt hxn, gR_lt han] <;> omega)
        | refine And.intro ?_ ?_
    · have hAf : ∃ acs : List AV, cellsOf σ an = some acs ∧ ao + AA.length ≤ acs.length ∧ ∀ k (h : k < AA.length), Rd encArr σ (rd acs (ao + k)) AA[k] := by
        rcases hA with ⟨n, o, cap, cs, e, h⟩ | ⟨e, _⟩
        · cases e; exact ⟨cs, h⟩
        · cases e
      have hXf : ∃ xcs : List AV, cellsOf σ xn = some xcs ∧ xo + X.length * 2 ≤ xcs.length ∧ win xcs xo (X.length * 2) = encSrv.row X := by
        rcases hX with ⟨n, o, cap, cs, e, _, h⟩ | ⟨e, _⟩
        · cases e; exact ⟨cs, h⟩
        · cases e
      obtain ⟨acs, ac1, ac2, ac3⟩ := hAf
      obtain ⟨xcs, xc1, xc2, xc3⟩ := hXf
      have hX2 := hok.2.1.1
      obtain ⟨mk0, hmk⟩ : ∃ mk0 : (Nat → Nat) → Nat → SR, mk0 = fun r => mkF X (fun k => rd acs (ao + k)) AA r (ss0 X AA) := ⟨_, rfl⟩
      simp only [List.append_assoc, at_new, at_new0, set_new, set_new0, not_true_eq_false, not_false_eq_true, decide_true, decide_false, Bool.not_true, Bool.not_false, false_implies, true_implies, and_true, true_and, Bool.false_eq_true, Bool.true_eq_false, implies_true, Bool.not_not, Classical.not_not, go_sem, Int.reduceToNat, List.take_nil, Nat.zero_mul, Nat.reduceEqDiff, Nat.reduceAdd, Nat.reduceLT, Nat.reduceLeDiff, Nat.reduceMul, ↓reduceIte, reduceCtorEq]
      refine ⟨by omega, ?_⟩
      refine loop_intro (fun i : Nat × (Nat → Nat) => ⟨[(3, .sl an ao AA.length ac), (5, .p σ.length 0), (8, .p (σ.length + 1) 0), (9, .p (σ.length + 4) 0), (10, .p (σ.length + 6) 0), (42, .sl xn xo X.length xc), (43, .i .i64 X.length), (44, .i .i64 i.1)],
        σ ++ TTk σ.length j L.length c cc ch0 (mk0 i.2) X.length i.1⟩) (fun i => i.1 ≤ X.length) (fun i => X.length - i.1) (0, fun _ => 0) (Nat.zero_le _) ?_ ?_
      · simp only [TTk, TTg, workK_zero, servK_zero, tailF]
        exact Wk.keep (by simp [look_cons])
      · rintro ⟨k, r⟩ hk
        simp only at hk
        simp only [l0_impl_RunServers, not_true_eq_false, not_false_eq_true, decide_true, decide_false, Bool.not_true, Bool.not_false, false_implies, true_implies, and_true, true_and, Bool.false_eq_true, Bool.true_eq_false, implies_true, Bool.not_not, Classical.not_not, go_sem, Int.reduceToNat, List.take_nil, Nat.zero_mul, Nat.reduceEqDiff, Nat.reduceAdd, Nat.reduceLT, Nat.reduceLeDiff, Nat.reduceMul, ↓reduceIte, reduceCtorEq]
        refine ⟨fun hlt => ?_, fun hge => ?_⟩
        · have hkA : k < AA.length := by omega
          obtain ⟨wx1, wx2⟩ := win_at (E := encSrv) xc2 xc3 k hlt
          simp only [encSrv] at wx1 wx2
          have hrq := ac3 k hkA
          have hf1 : (mk0 r k).x = X[k] := by rw [hmk]; simp [mkF, gS, List.getD_eq_getElem?_getD, hlt]
          have hf2 : (mk0 r k).req = rd acs (ao + k) := by rw [hmk]; rfl
          have hf3 : (mk0 r k).A = AA[k] := by rw [hmk]; simp [mkF, gAA, List.getD_eq_getElem?_getD, hkA]
          have hf4 : (mk0 r k).w = sv0 X[k] := by rw [hmk]; simp [mkF, gV, ss0, List.getD_eq_getElem?_getD, hlt]
          have hf5 : (mk0 r k).row = List.replicate AA[k].length (-1) := by rw [hmk]; simp [mkF, Go.Ds.gR, ss0, List.getD_eq_getElem?_getD, hkA]
          have hnext : ∀ cap, updC (mk0 r) k cap = mk0 (fun q => if q = k then cap else r q) := fun cap => by
            rw [hmk]; funext q; unfold updC mkF
            by_cases e : q = k
            · subst e; simp
            · simp [e]
          have hlen20 : AA[k].length ≤ 1000 := haa _ (List.getElem_mem hkA)
          have hPl : ∀ sv wk, (TTg σ.length j L.length c cc ch0 (mk0 r) X.length k sv wk).length = 7 + 3 * k := fun sv wk => TTg_len
          have hP3 : ∀ sv wk R, (TTg σ.length j L.length c cc ch0 (mk0 r) X.length k sv wk ++ R)[3]? = some (.rw ty_sl_int sv X.length) := fun sv wk R => rfl
          have hP4 : ∀ sv wk R, (TTg σ.length j L.length c cc ch0 (mk0 r) X.length k sv wk ++ R)[4]? = some (.rw ty_impl_ServerRun [.sn, .sn, .sl (σ.length + 2) 0 120 cc, .sl (σ.length + 3) 0 X.length X.length] 4) := fun sv wk R => rfl
          have hP5 : ∀ sv wk R, (TTg σ.length j L.length c cc ch0 (mk0 r) X.length k sv wk ++ R)[5]? = some (.rw ty_ptr_impl_server wk X.length) := fun sv wk R => rfl
          have hP6 : ∀ sv wk R, (TTg σ.length j L.length c cc ch0 (mk0 r) X.length k sv wk ++ R)[6]? = some (.rw ty_sl_ptr_impl_server [.sl (σ.length + 5) 0 X.length X.length] 1) := fun sv wk R => rfl
          have hR0 : ∀ sv wk B R, (TTg σ.length j L.length c cc ch0 (mk0 r) X.length k sv wk ++ (B :: R))[7 + 3 * k]? = some B := fun sv wk B R => by
            rw [List.getElem?_append_right (by rw [hPl]; omega), hPl, Nat.sub_self]; rfl
          have hS0 : ∀ sv wk B B' R, (TTg σ.length j L.length c cc ch0 (mk0 r) X.length k sv wk ++ (B :: R)).set (7 + 3 * k) B' = TTg σ.length j L.length c cc ch0 (mk0 r) X.length k sv wk ++ (B' :: R) := fun sv wk B B' R => by
            rw [List.set_append_right _ _ (by rw [hPl]; omega), hPl, Nat.sub_self]; rfl
          have hS5 : ∀ sv wk wk' R, (TTg σ.length j L.length c cc ch0 (mk0 r) X.length k sv wk ++ R).set 5 (.rw ty_ptr_impl_server wk' X.length) = TTg σ.length j L.length c cc ch0 (mk0 r) X.length k sv wk' ++ R := fun sv wk wk' R => rfl
          have hS3 : ∀ sv wk sv' R, (TTg σ.length j L.length c cc ch0 (mk0 r) X.length k sv wk ++ R).set 3 (.rw ty_sl_int sv' X.length) = TTg σ.length j L.length c cc ch0 (mk0 r) X.length k sv' wk ++ R := fun sv wk sv' R => rfl
          have e8 : 7 + 3 * k + 1 = 8 + 3 * k := by omega
          have e9 : 7 + 3 * k + 1 + 1 = 9 + 3 * k := by omega
          have hspW : ∀ v, spl (workK σ.length X.length k) k [v] = (workK σ.length X.length k).set k v := fun v => rfl
          have hspS : ∀ v, spl (servK σ.length (mk0 r) X.length k) k [v] = (servK σ.length (mk0 r) X.length k).set k v := fun v => rfl
          generalize hrv : rd acs (ao + k) = rv at *
          rcases hrq with ⟨qn, qo, qc, qcs, rfl, hqr⟩ | ⟨rfl, hA0, _⟩
          · simp only [TTk, List.append_assoc, List.cons_append, List.nil_append, at_new, at_new0, set_new, set_new0, onC_old xc1, onC_old ac1, wx2, hPl, hP3, hP4, hP5, hP6, hR0, hS0, hS5, hS3, e8, e9, hrv, workK_len, servK_len, hlt, hspW, not_true_eq_false, not_false_eq_true, decide_true, decide_false, Bool.not_true, Bool.not_false, false_implies, true_implies, and_true, true_and, Bool.false_eq_true, Bool.true_eq_false, implies_true, Bool.not_not, Classical.not_not, go_sem, Int.reduceToNat, List.take_nil, Nat.zero_mul, Nat.reduceEqDiff, Nat.reduceAdd, Nat.reduceLT, Nat.reduceLeDiff, Nat.reduceMul, ↓reduceIte, reduceCtorEq]
            refine ⟨by omega, by omega, by omega, by omega, by omega, by omega, by omega, impl_none_ AA[k].length (by omega) fun cap => ?_⟩
            have hb1 : cpB (mk0 r k) = .rw ty_impl_Server [.i .i64 X[k].B, .i .i64 X[k].P] 2 := by unfold cpB; rw [hf1]
            have hb2 : svB (mk0 r k) = .rw ty_impl_server [.i .i64 X[k].B, .i .i64 X[k].P, .i .i64 X[k].B, .i .i64 0, .sl qn qo AA[k].length qc, .i .i64 0, .i .i64 0, .i .i64 0] 8 := by
              unfold svB blkSv cellsSv; rw [hf1, hf2, hf4]; rfl
            have hnx := TTg_next (N := σ.length) (j := j) (Ln := L.length) (c := c) (cc := cc) (ch := ch0) (f := mk0 r) (n := X.length) (k := k) (sv := servK σ.length (updC (mk0 r) k cap) X.length (k + 1)) (wk := workK σ.length X.length (k + 1)) cap
            rw [hb1, hb2, hf5, hnext] at hnx
            have hsk := servK_set (N := σ.length) (f := mk0 r) hlt cap
            rw [hf3, hnext] at hsk
            simp only [List.append_assoc, List.cons_append, List.nil_append, at_new, at_new0, set_new, set_new0, onC_old xc1, onC_old ac1, wx2, hPl, hP3, hP4, hP5, hP6, hR0, hS0, hS5, hS3, e8, e9, hrv, workK_len, servK_len, hlt, hspS, not_true_eq_false, not_false_eq_true, decide_true, decide_false, Bool.not_true, Bool.not_false, false_implies, true_implies, and_true, true_and, Bool.false_eq_true, Bool.true_eq_false, implies_true, Bool.not_not, Classical.not_not, go_sem, Int.reduceToNat, List.take_nil, Nat.zero_mul, Nat.reduceEqDiff, Nat.reduceAdd, Nat.reduceLT, Nat.reduceLeDiff, Nat.reduceMul, ↓reduceIte, reduceCtorEq]
            refine ⟨by omega, by omega, by omega, (k + 1, fun q => if q = k then cap else r q), ⟨by omega, by omega⟩, ?_⟩
            rw [hsk, workK_set hlt, hnx]
            exact Wk.keep (by simp [look_cons])
          · simp only [TTk, List.append_assoc, List.cons_append, List.nil_append, at_new, at_new0, set_new, set_new0, onC_old xc1, onC_old ac1, wx2, hPl, hP3, hP4, hP5, hP6, hR0, hS0, hS5, hS3, e8, e9, hrv, workK_len, servK_len, hlt, hspW, not_true_eq_false, not_false_eq_true, decide_true, decide_false, Bool.not_true, Bool.not_false, false_implies, true_implies, and_true, true_and, Bool.false_eq_true, Bool.true_eq_false, implies_true, Bool.not_not, Classical.not_not, go_sem, Int.reduceToNat, List.take_nil, Nat.zero_mul, Nat.reduceEqDiff, Nat.reduceAdd, Nat.reduceLT, Nat.reduceLeDiff, Nat.reduceMul, ↓reduceIte, reduceCtorEq]
            have hA00 : AA[k].length = 0 := by rw [hA0]; rfl
            refine ⟨by omega, by omega, by omega, by omega, by omega, by omega, by omega, impl_none_ 0 (by omega) fun cap => ?_⟩
            have hb1 : cpB (mk0 r k) = .rw ty_impl_Server [.i .i64 X[k].B, .i .i64 X[k].P] 2 := by unfold cpB; rw [hf1]
            have hb2 : svB (mk0 r k) = .rw ty_impl_server [.i .i64 X[k].B, .i .i64 X[k].P, .i .i64 X[k].B, .i .i64 0, .sn, .i .i64 0, .i .i64 0, .i .i64 0] 8 := by
              unfold svB blkSv cellsSv; rw [hf1, hf2, hf4]; rfl
            have hnx := TTg_next (N := σ.length) (j := j) (Ln := L.length) (c := c) (cc := cc) (ch := ch0) (f := mk0 r) (n := X.length) (k := k) (sv := servK σ.length (updC (mk0 r) k cap) X.length (k + 1)) (wk := workK σ.length X.length (k + 1)) cap
            rw [hb1, hb2, hf5, hnext] at hnx
            have hsk := servK_set (N := σ.length) (f := mk0 r) hlt cap
            rw [hf3, hnext] at hsk
            rw [hA00] at hsk hnx
            simp only [List.append_assoc, List.cons_append, List.nil_append, at_new, at_new0, set_new, set_new0, onC_old xc1, onC_old ac1, wx2, hPl, hP3, hP4, hP5, hP6, hR0, hS0, hS5, hS3, e8, e9, hrv, workK_len, servK_len, hlt, hspS, not_true_eq_false, not_false_eq_true, decide_true, decide_false, Bool.not_true, Bool.not_false, false_implies, true_implies, and_true, true_and, Bool.false_eq_true, Bool.true_eq_false, implies_true, Bool.not_not, Classical.not_not, go_sem, Int.reduceToNat, List.take_nil, Nat.zero_mul, Nat.reduceEqDiff, Nat.reduceAdd, Nat.reduceLT, Nat.reduceLeDiff, Nat.reduceMul, ↓reduceIte, reduceCtorEq]
            refine ⟨by omega, by omega, by omega, (k + 1, fun q => if q = k then cap else r q), ⟨by omega, by omega⟩, ?_⟩
            rw [hsk, workK_set hlt, hnx]
            exact Wk.keep (by simp [look_cons])
        · have ek : k = X.length := by omega
          subst ek
          have hrq : ∀ q (hq : q < X.length), Rd encArr σ (rd acs (ao + q)) (gAA AA q) := fun q hq => by
            have h := ac3 q (by omega)
            rw [show gAA AA q = AA[q]'(by omega) by simp [gAA, List.getD_eq_getElem?_getD, show q < AA.length by omega]]
            exact h
          have hbel : ∀ q (hq : q < X.length), Go.Abs.below σ.length (rd acs (ao + q)) = true := fun q hq => by
            rcases hrq q hq with ⟨n, o, cap, cs, e, h, _⟩ | ⟨e, _⟩
            · rw [e]; exact bel_sl h _ _ _
            · rw [e]; exact bel_sn _
          rw [TTk_all, hmk]
          have hT0 : ∀ R, (TT σ.length j L.length c cc ch0 (mkF X (fun k => rd acs (ao + k)) AA r (ss0 X AA)) X.length ++ R)[0]? = some (.rw ty_sl_impl_Job [.sl j 0 L.length c] 1) := fun R => rfl
          have hT0' : (TT σ.length j L.length c cc ch0 (mkF X (fun k => rd acs (ao + k)) AA r (ss0 X AA)) X.length)[0]? = some (.rw ty_sl_impl_Job [.sl j 0 L.length c] 1) := rfl
          simp only [at_new0, hT0', not_true_eq_false, not_false_eq_true, decide_true, decide_false, Bool.not_true, Bool.not_false, false_implies, true_implies, and_true, true_and, Bool.false_eq_true, Bool.true_eq_false, implies_true, Bool.not_not, Classical.not_not, go_sem, Int.reduceToNat, List.take_nil, Nat.zero_mul, Nat.reduceEqDiff, Nat.reduceAdd, Nat.reduceLT, Nat.reduceLeDiff, Nat.reduceMul, ↓reduceIte, reduceCtorEq]
          have e0 : ch0 = (ss0 X AA).ch := by rw [hch0]; rfl
          rw [e0]
          refine impl_simulateS_ (ι := SS) (Hp := fun st => σ ++ TT σ.length j L.length c cc st.ch (mkF X (fun k => rd acs (ao + k)) AA r st) X.length) (N := σ.length + (7 + 3 * X.length)) (srvPick X AA L) (ss0 X AA) (fun q => ?_) (fun _ q => ?_) (fun q => cells_old hj _) hl ?_ (fun st now done => pick_range st now done) (fun c1 c2 => ?_)
          · rw [List.length_append, TT_len]
          · exact Closed.add hC (TT_in hjn fun q hq => hbel q hq)
          · intro k hk τ m hm K hK
            rw [List.append_assoc] at hm hK
            show CallWp Try.prog _ [.p m 0, .p (σ.length + 6) 0, .p σ.length 0, .p (σ.length + 4) 0] _ K
            rw [List.append_assoc]
            refine impl_RunServers_2_ hj hm hl hk (ss_len hok.2.2.1 k).2.1 hx (fun q hq => ?_) (fun h => ?_) (fun q h => ?_)
            · have hs := sv_ok (L := L) (AA := AA) hok.2.1 hq k
              have hd := sv_dl (L := L) (AA := AA) hok.2.1 hq k
              have hAq := hok.2.2.at hq
              refine ⟨hrq q hq, gS_ok hok.2.1 hq, hs, ?_, ?_, by have := hAq.1; show (gAA AA q).length ≤ 1000; omega, (ss_len (L := L) hok.2.2.1 k).2.2 q hq⟩
              · show (svT X AA L k q).dl ≤ 90000
                omega
              · show (svT X AA L k q).done ≤ 1000
                rcases hs.d1 with h | h
                · omega
                · by_cases ha : (svT X AA L k q).at_ < (gAA AA q).length
                  · have := (gA_ok hAq ha).2.2; omega
                  · rw [show gA (gAA AA q) (svT X AA L k q).at_ = default by unfold gA; rw [List.getD_eq_getElem?_getD, List.getElem?_eq_none (by omega)]; rfl] at h
                    change (svT X AA L k q).done < 0 at h
                    omega
            · rw [go_mk] at h
              have e : goT X AA L k = -1 := by
                rcases goT_spec (X := X) (AA := AA) (L := L) k with e | ⟨c, e, _⟩ <;> omega
              have e1 := (st_neg e).2
              have e2 : (srvS X AA L (k + 1)).st.ch = (srvS X AA L k).st.ch := by rw [(st_neg e).1]
              rw [e1, e2, TT_congr (fun q hq => mk_neg e hq)] at hK
              exact hK
            · rw [go_mk] at h
              have e1 := (st_pos h).2
              have e2 : (srvS X AA L (k + 1)).st.ch = (srvS X AA L k).st.ch.set k q := by rw [(st_pos h).1]
              rw [e1, e2, TT_congr (fun p hp => mk_pos hok.2.2.1 h hp)] at hK
              exact hK
          · rw [List.append_assoc]
            have hrun : (sim L (srvPick X AA L) (ss0 X AA) 120).run = srvRun X AA L := rfl
            have hfin : (sim L (srvPick X AA L) (ss0 X AA) 120).fin = srvFin X AA L := rfl
            have hchE : (sim L (srvPick X AA L) (ss0 X AA) 120).st.ch = srvCh X AA L := rfl
            have hl3 := sim_lens (L := L) (pick := srvPick X AA L) (s0 := ss0 X AA) 120
            have hssl := ss_len (L := L) hok.2.2.1 120
            have hsd : ∀ q, q < X.length → ((mkF X (fun k => rd acs (ao + k)) AA r (sim L (srvPick X AA L) (ss0 X AA) 120).st) q).row = Go.Ds.gR (srvSd X AA L) q := fun q _ => rfl
            have hA2 : ∀ q, ((mkF X (fun k => rd acs (ao + k)) AA r (sim L (srvPick X AA L) (ss0 X AA) 120).st) q).A = gAA AA q := fun q => rfl
            rw [hrun, hfin] at hl3
            rw [hchE] at hssl
            have hsdl : (srvSd X AA L).length = X.length := hssl.1
            have hsdr : ∀ q, q < X.length → (Go.Ds.gR (srvSd X AA L) q).length = (gAA AA q).length := hssl.2.2
            rw [hrun, hfin, hchE]
            generalize (sim L (srvPick X AA L) (ss0 X AA) 120).st = st at *
            generalize hF : mkF X (fun k => rd acs (ao + k)) AA r st = F at *
            generalize hQ : TT σ.length j L.length c cc (srvCh X AA L) F X.length ++ [.rw ty_int (encInt.row (srvRun X AA L)) c1, .rw ty_int (encInt.row (srvFin X AA L)) c2] = Q
            have hQ4 : Q[4]? = some (.rw ty_impl_ServerRun [.sn, .sn, .sl (σ.length + 2) 0 120 cc, .sl (σ.length + 3) 0 X.length X.length] 4) := by rw [← hQ]; rfl
            have hQ1 : Q[1]? = some (.rw ty_impl_ServerRun [.sn, .sn, .sn, .sn] 4) := by rw [← hQ]; rfl
            have hQl : Q.length = 7 + 3 * X.length + 2 := by rw [← hQ, List.length_append, TT_len]; rfl
            have hq4 : ∀ B, (Q.set 4 B)[4]? = some B := fun B => List.getElem?_set_self (by omega)
            have hq1 : ∀ B, (Q.set 4 B)[1]? = some (.rw ty_impl_ServerRun [.sn, .sn, .sn, .sn] 4) := fun B => by rw [List.getElem?_set_ne (by decide)]; exact hQ1
            have hq1' : ∀ B B', ((Q.set 4 B).set 1 B')[1]? = some B' := fun B B' => List.getElem?_set_self (by rw [List.length_set]; omega)
            simp only [at_new, set_new, hQ4, hq4, hq1, hq1', not_true_eq_false, not_false_eq_true, decide_true, decide_false, Bool.not_true, Bool.not_false, false_implies, true_implies, and_true, true_and, Bool.false_eq_true, Bool.true_eq_false, implies_true, Bool.not_not, Classical.not_not, go_sem, Int.reduceToNat, List.take_nil, Nat.zero_mul, Nat.reduceEqDiff, Nat.reduceAdd, Nat.reduceLT, Nat.reduceLeDiff, Nat.reduceMul, ↓reduceIte, reduceCtorEq]
            refine Fin.plain (hy hok _ _ ?_)
            intro σ9 _ hs9
            have oth : ∀ B B' q ty cs rr, (∀ n, σ.length ≤ n → σ9[n]? = (σ ++ (Q.set 4 B).set 1 B')[n]?) → q ≠ 4 → q ≠ 1 → Q[q]? = some (.rw ty cs rr) → cellsOf σ9 (σ.length + q) = some cs := fun B B' q ty cs rr hs h4 h1 h => by
              unfold cellsOf
              rw [hs _ (by omega), at_new, List.getElem?_set_ne (fun h => h1 h.symm), List.getElem?_set_ne (fun h => h4 h.symm), h]
            have q2 : Q[2]? = some (.rw ty_int (encInt.row (srvCh X AA L)) cc) := by rw [← hQ]; rfl
            have q3 : Q[3]? = some (.rw ty_sl_int (servC σ.length F X.length) X.length) := by rw [← hQ]; rfl
            have q7 : Q[7 + 3 * X.length]? = some (.rw ty_int (encInt.row (srvRun X AA L)) c1) := by
              rw [← hQ, List.getElem?_append_right (by rw [TT_len]; exact Nat.le_refl _), TT_len, Nat.sub_self]; rfl
            have q8 : Q[7 + 3 * X.length + 1]? = some (.rw ty_int (encInt.row (srvFin X AA L)) c2) := by
              rw [← hQ, List.getElem?_append_right (by rw [TT_len]; omega), TT_len, show 7 + 3 * X.length + 1 - (7 + 3 * X.length) = 1 by omega]; rfl
            refine ⟨_, _, _, _, rfl, Rd.own' (oth _ _ _ _ _ _ hs9 (by omega) (by omega) q7) hl3.2.2, Rd.own' (oth _ _ _ _ _ _ hs9 (by omega) (by omega) q8) hl3.2.1, Rd.own' (oth _ _ _ _ _ _ hs9 (by omega) (by omega) q2) hssl.2.1, .inl ⟨σ.length + 3, 0, X.length, servC σ.length F X.length, by rw [hsdl], oth _ _ _ _ _ _ hs9 (by omega) (by omega) q3, by rw [servC_len, hsdl]; omega, fun q hq => ?_⟩⟩
            have hqX : q < X.length := by omega
            rw [Nat.zero_add, rd_servC hqX, hA2]
            have hrow := hsd q hqX
            have q9 : Q[9 + 3 * q]? = some (rowB (F q)) := by rw [← hQ]; exact TT_row hqX
            have e : (srvSd X AA L)[q] = Go.Ds.gR (srvSd X AA L) q := by simp [Go.Ds.gR, List.getD_eq_getElem?_getD, hq]
            rw [e, ← hrow]
            exact Rd.own' (oth _ _ _ _ _ _ hs9 (by omega) (by omega) q9) (by rw [hrow]; exact hsdr q hqX)
  · exact no fun h => h1 h.1
end Go.Proofs.Ytnlciginmeebhaa
