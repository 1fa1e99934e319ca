import Derived.Test.YtnlciginmeebhaaS59
namespace Go.Proofs.Ytnlciginmeebhaa
open Go.Abs Go.Ds
set_option linter.unusedSimpArgs false
set_option linter.unusedVariables false
set_option maxRecDepth 20000
set_option maxHeartbeats 2000000
def workK (N n k : Nat) : List AV := (List.range n).map fun q => if q < k then AV.p (N + (8 + 3 * q)) 0 else .pn
def servK (N : Nat) (f : Nat → SR) (n k : Nat) : List AV := (List.range n).map fun q => if q < k then AV.sl (N + (9 + 3 * q)) 0 (f q).A.length (f q).r else .sn
def TTg (N j Ln c cc : Nat) (ch : List Int) (f : Nat → SR) (n k : Nat) (sv wk : List AV) : List AB :=
  .rw ty_sl_impl_Job [.sl j 0 Ln c] 1 :: .rw ty_impl_ServerRun [.sn, .sn, .sn, .sn] 4 :: .rw ty_int (encInt.row ch) cc :: .rw ty_sl_int sv n :: .rw ty_impl_ServerRun [.sn, .sn, .sl (N + 2) 0 120 cc, .sl (N + 3) 0 n n] 4 ::
    .rw ty_ptr_impl_server wk n :: .rw ty_sl_ptr_impl_server [.sl (N + 5) 0 n n] 1 :: tailF f k
def TTk (N j Ln c cc : Nat) (ch : List Int) (f : Nat → SR) (n k : Nat) : List AB := TTg N j Ln c cc ch f n k (servK N f n k) (workK N n k)
section
variable {N j Ln c cc : Nat} {ch : List Int} {f : Nat → SR} {n k : Nat} {τ : List AB}
theorem TTg_len {sv wk : List AV} : (TTg N j Ln c cc ch f n k sv wk).length = 7 + 3 * k := by simp [TTg, tail_len]; omega
theorem workK_len : (workK N n k).length = n := by simp [workK]
theorem servK_len : (servK N f n k).length = n := by simp [servK]
theorem workK_zero : workK N n 0 = rep n [.pn] := by
  apply List.ext_getElem
  · rw [workK_len]; induction n with
    | zero => rfl
    | succ n ih => rw [rep, List.length_append, ← ih]; simp; omega
  · intro i h1 h2
    have : ∀ x ∈ rep n [AV.pn], x = .pn := by
      clear h1 h2
      induction n with
      | zero => intro x hx; simp [rep] at hx
      | succ n ih =>
        intro x hx
        simp only [rep, List.singleton_append, List.mem_cons] at hx
        rcases hx with rfl | hx
        · rfl
        · exact ih x hx
    rw [this _ (List.getElem_mem h2)]
    simp [workK]
theorem servK_zero : servK N f n 0 = rep n [.sn] := by
  apply List.ext_getElem
  · rw [servK_len]; induction n with
    | zero => rfl
    | succ n ih => rw [rep, List.length_append, ← ih]; simp; omega
  · intro i h1 h2
    have : ∀ x ∈ rep n [AV.sn], x = .sn := by
      clear h1 h2
      induction n with
      | zero => intro x hx; simp [rep] at hx
      | succ n ih =>
        intro x hx
        simp only [rep, List.singleton_append, List.mem_cons] at hx
        rcases hx with rfl | hx
        · rfl
        · exact ih x hx
    rw [this _ (List.getElem_mem h2)]
    simp [servK]
theorem workK_set (h : k < n) : (workK N n k).set k (.p (N + (8 + 3 * k)) 0) = workK N n (k + 1) := by
  apply List.ext_getElem
  · simp [workK]
  · intro i h1 h2
    rw [List.getElem_set]
    simp only [workK, List.getElem_map, List.getElem_range]
    by_cases e : k = i
    · subst e; rw [if_pos rfl, if_pos (by omega)]
    · rw [if_neg e]
      by_cases h3 : i < k
      · rw [if_pos h3, if_pos (by omega)]
      · rw [if_neg h3, if_neg (by omega)]
def updC (f : Nat → SR) (i : Nat) (r : Nat) : Nat → SR := fun k => if k = i then { f k with r := r } else f k
theorem servK_set (h : k < n) (r : Nat) : (servK N f n k).set k (.sl (N + (9 + 3 * k)) 0 (f k).A.length r) = servK N (updC f k r) n (k + 1) := by
  apply List.ext_getElem
  · simp [servK]
  · intro i h1 h2
    rw [List.getElem_set]
    simp only [servK, List.getElem_map, List.getElem_range]
    by_cases e : k = i
    · subst e; rw [if_pos rfl, if_pos (by omega)]; simp [updC]
    · rw [if_neg e]
      by_cases h3 : i < k
      · rw [if_pos h3, if_pos (by omega)]; simp [updC, show ¬ i = k by omega]
      · rw [if_neg h3, if_neg (by omega)]
theorem tail_next (r : Nat) : tailF (updC f k r) (k + 1) = tailF f k ++ [cpB (f k), svB (f k), .rw ty_int (encInt.row (f k).row) r] := by
  rw [tailF, tail_congr (f := updC f k r) (g := f) fun q hq => by unfold updC; rw [if_neg (by omega)]]
  simp [updC]
theorem TTg_next {sv wk : List AV} (r : Nat) : TTg N j Ln c cc ch f n k sv wk ++ [cpB (f k), svB (f k), .rw ty_int (encInt.row (f k).row) r] = TTg N j Ln c cc ch (updC f k r) n (k + 1) sv wk := by
  unfold TTg
  rw [tail_next]; rfl
theorem TTk_all : TTk N j Ln c cc ch f n n = TT N j Ln c cc ch f n := by
  have e1 : workK N n n = workC N n := List.map_congr_left fun q hq => by rw [if_pos (List.mem_range.1 hq)]
  have e2 : servK N f n n = servC N f n := List.map_congr_left fun q hq => by rw [if_pos (List.mem_range.1 hq)]
  unfold TTk TTg TT
  rw [e1, e2]
theorem bel_i (M : Nat) (k : IntKind) (x : Int) : Go.Abs.below M (.i k x) = true := rfl
theorem bel_sn (M : Nat) : Go.Abs.below M .sn = true := rfl
theorem bel_sl {M n : Nat} (h : n < M) (o l c : Nat) : Go.Abs.below M (.sl n o l c) = true := decide_eq_true h
theorem tail_in {M : Nat} : ∀ {n}, (∀ k, k < n → below M (f k).req = true) → (tailF f n).all (Go.Abs.cellsIn M) = true
  | 0, _ => rfl
  | n + 1, h => by
    rw [tailF, List.all_append, tail_in fun k hk => h k (by omega)]
    have := h n (by omega)
    simp only [List.all_cons, List.all_nil, Go.Abs.cellsIn, cellsSv, bel_i, Enc.row_bel, this, Bool.and_self]
theorem TT_in (hj : j < N) (h : ∀ k, k < n → below N (f k).req = true) : (TT N j Ln c cc ch f n).all (Go.Abs.cellsIn (N + (TT N j Ln c cc ch f n).length)) = true := by
  rw [TT_len]
  have h1 : (workC N n).all (below (N + (7 + 3 * n))) = true := by
    rw [List.all_eq_true]
    intro x hx
    obtain ⟨q, hq, rfl⟩ := List.mem_map.1 hx
    have := List.mem_range.1 hq
    simp only [Go.Abs.below, decide_eq_true_eq]; omega
  have h2 : (servC N f n).all (below (N + (7 + 3 * n))) = true := by
    rw [List.all_eq_true]
    intro x hx
    obtain ⟨q, hq, rfl⟩ := List.mem_map.1 hx
    have := List.mem_range.1 hq
    simp only [Go.Abs.below, decide_eq_true_eq]; omega
  have h3 := tail_in (f := f) (M := N + (7 + 3 * n)) (n := n) fun k hk => below_mono (by omega) (h k hk)
  simp only [TT, List.all_cons, h3, Go.Abs.cellsIn, h1, h2, Enc.row_bel, List.all_nil, bel_sn, bel_sl (show j < N + (7 + 3 * n) by omega), bel_sl (show N + 2 < N + (7 + 3 * n) by omega), bel_sl (show N + 3 < N + (7 + 3 * n) by omega), bel_sl (show N + 5 < N + (7 + 3 * n) by omega), Bool.and_self]
end
def mkF (X : List Srv) (req : Nat → AV) (AA : List (List Arr)) (r : Nat → Nat) (st : SS) : Nat → SR := fun k => ⟨gS X k, req k, gAA AA k, gV st.sv k, gR st.sd k, r k⟩
section
variable {X : List Srv} {req : Nat → AV} {AA : List (List Arr)} {r : Nat → Nat} {L : List Job}
theorem wL_mk (st : SS) (t : Int) : wL (fA (mkF X req AA r st) t X.length) X.length = admitAll X AA t st.sv := by
  unfold wL admitAll
  refine List.map_congr_left fun q hq => ?_
  unfold fA
  rw [if_pos (List.mem_range.1 hq)]; rfl
theorem go_mk (t : Nat) : srvGo X.length L (wL (fA (mkF X req AA r (srvS X AA L t).st) t X.length) X.length) t (srvS X AA L t).done = goT X AA L t := by
  rw [wL_mk]; rfl
theorem mk_neg {t : Nat} (h : goT X AA L t = -1) {k : Nat} (hk : k < X.length) : mkF X req AA r (srvS X AA L (t + 1)).st k = fA (mkF X req AA r (srvS X AA L t).st) t X.length k := by
  rw [(st_neg h).1]
  unfold mkF fA
  rw [if_pos hk]
  simp only [wT_get hk]; rfl
theorem mk_pos {t c : Nat} (hA : AA.length = X.length) (h : goT X AA L t = c) {k : Nat} (hk : k < X.length) : mkF X req AA r (srvS X AA L (t + 1)).st k = fS (fA (mkF X req AA r (srvS X AA L t).st) t X.length) t c k := by
  have h1 : svT X AA L (t + 1) k = gV (srvS X AA L (t + 1)).st.sv k := rfl
  have h2 := sv_step (AA := AA) (L := L) (t := t) hk
  have h3 := sd_step (L := L) hA (t := t) hk
  rw [h1] at h2
  unfold mkF fS fA
  rw [if_pos hk]
  simp only
  rw [h2, h3, wT_get hk, h]
  by_cases e : k = c
  · subst e
    simp only [true_and, if_true]; rfl
  · have e2 : ¬ (c : Int) = (k : Int) := by omega
    simp only [e, e2, false_and, if_false]; rfl
theorem sv_dl (hX : srvOk X) {k : Nat} (hk : k < X.length) : ∀ t : Nat, (svT X AA L t k).dl ≤ 24 * t + 24
  | 0 => by rw [sv_zero hk]; show (0 : Int) ≤ 24 * ((0 : Nat) : Int) + 24; decide
  | t + 1 => by
    have ih := sv_dl hX hk t
    have hx := gS_ok hX hk
    unfold Srv.ok at hx
    have ha := admitN_dl (x := gS X k) (A := gAA AA k) (now := (t : Int)) (B := 24 * t + 24) (by omega) ((gAA AA k).length - (svT X AA L t k).came) ih
    change (admS (gS X k) (gAA AA k) t (svT X AA L t k)).dl ≤ _ at ha
    rw [sv_step hk]
    split
    · unfold Go.Ds.serve
      simp only
      split <;> omega
    · omega
theorem pick_range (st : SS) (now : Nat) (done : List Int) : -1 ≤ (srvPick X AA L st now done).1 ∧ (srvPick X AA L st now done).1 < L.length := by
  unfold srvPick
  split
  · rcases edf_fair L now done with e | ⟨q, e, hq, _⟩ <;> simp only [e] <;> omega
  · simp only; omega
end
end Go.Proofs.Ytnlciginmeebhaa
