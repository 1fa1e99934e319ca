import Derived.Test.YtfngcejaphhmmaaGreatDoorAbsP
namespace Go.Abs
set_option linter.unusedVariables false
set_option linter.unusedSimpArgs false
def chkC (P : Program) (nt : Nat) : Code → LC → Bool
  | c, .cut c' => chkC P nt c c'
  | .skip, .skip => true
  | .seq a b, .seq a' b' => chkC P nt a a' && chkC P nt b b'
  | .cond c a b, .cond c' a' b' => chkX c c' && chkC P nt a a' && chkC P nt b b'
  | .block id c, .block id' c' => id == id' && chkC P nt c c'
  | .loop c, .loop c' => chkC P nt c c'
  | .exit id, .exit id' => id == id'
  | .ret, .ret => true
  | .region _ ops false, .ops l => chkL P nt ops ops.toList l
  | .region _ ops true, .draw h l => chkL P nt ops ops.toList l && chkDr h ops.toList l && ssa (l.take h) && decide (h ≤ l.length)
  | .region _ ops true, .plan ix cs p => chkRg P nt ops ix cs p
  | _, _ => false
theorem least {p : Nat → Prop} (h : ∃ n, p n) : ∃ n, p n ∧ ∀ m, p m → n ≤ m := by
  obtain ⟨n, hn⟩ := h
  induction n using Nat.strongRecOn with
  | _ n ih =>
    by_cases hm : ∃ m, m < n ∧ p m
    · obtain ⟨m, h1, h2⟩ := hm
      exact ih m h1 h2
    · refine ⟨n, hn, fun m h => ?_⟩
      rcases Nat.lt_or_ge m n with h1 | h1
      · exact absurd ⟨m, h1, h⟩ hm
      · exact h1
section
variable {P : Program} {nt L0 : Nat} {F : Fr}
theorem Post.trans {ρ ρ' : Pl} {Q : Exit → St → Prop} {e : Exit} {a : Act} {w : World} (he : ∀ n, n < L0 → ρ' n = ρ n) (h : Post F ρ' nt L0 Q e a w) : Post F ρ nt L0 Q e a w := by
  obtain ⟨s, ρ2, h1, h2⟩ := h
  exact ⟨s, ρ2, fun n hn => (h1 n hn).trans (he n hn), h2⟩
theorem draw_ok (hm : P.follows .mixedOrders = true) {id h : Nat} {ops : Array Oper} {l : List LI} (hc : chkL P nt ops ops.toList l = true) (hd : chkDr h ops.toList l = true) (hs1 : ssa (l.take h) = true) {ρ : Pl} {s : St} {a : Act} {w : World} {Q : Exit → St → Prop}
    (hL : L0 ≤ s.σ.length) (hs : SimS F ρ nt s a w) (hw : wpQ P h l s fun r s' => wpI P r s' (Q .normal)) : (Code.region id ops true).wp P (Post F ρ nt L0 Q) a w := by
  obtain ⟨hh, T, hk, hT, hok⟩ := wpQ_get hw hs1
  refine wp_region_any hm ?_
  refine head_any (F := F) (nt := nt) (ρ := ρ) (ρ0 := ρ) hc hd hh hT hok hk ?_ ops.size _ [] (by simp) ?_ ?_ (by simp) (by simp) (fun _ _ => rfl) ?_
  · intro s' ρ' a' w' hk' he hN hs'
    exact ⟨s', ρ', fun n hn => he n (by omega), by omega, hs', hk'⟩
  · intro j _ hj
    simp [Array.getD_eq_getD_getElem?, hj]
  · intro i c d hi hci hl
    have := chk_len hc
    simp [Array.getD_eq_getD_getElem?, show i < ops.size by omega] at hl
  · exact ⟨hs.1.drew, hs.2.1, hs.2.2.1, hs.2.2.2⟩
theorem code_ok (hm : P.follows .mixedOrders = true) : ∀ {c : Code} {lc : LC}, chkC P nt c lc = true → ∀ {Q : Exit → St → Prop} {ρ : Pl} {s : St} {a : Act} {w : World}, L0 ≤ s.σ.length → SimS F ρ nt s a w → wpC P L0 nt lc Q s → c.wp P (Post F ρ nt L0 Q) a w
  | c, .cut c', hc, Q, ρ, s, a, w, hL, hs, hw => by
    simp only [chkC] at hc
    simp only [wpC] at hw
    obtain ⟨s1, hW, h1⟩ := hw
    obtain ⟨ρ', he, hL', hs'⟩ := hW F ρ a w hL hs
    exact wp_mono (code_ok hm hc hL' hs' h1) fun e a w h => h.trans he
  | .skip, .skip, _, Q, ρ, s, a, w, hL, hs, hw => wp_skip ⟨s, ρ, fun _ _ => rfl, hL, hs, hw⟩
  | .seq x y, .seq x' y', hc, Q, ρ, s, a, w, hL, hs, hw => by
    simp only [chkC, Bool.and_eq_true] at hc
    refine wp_seq ?_
    refine wp_mono (code_ok hm hc.1 hL hs hw) ?_
    rintro e a' w' ⟨s', ρ', he, hL', hs', hk⟩
    cases e with
    | normal => exact wp_mono (code_ok hm hc.2 hL' hs' hk) fun e a w h => h.trans he
    | exit id => exact ⟨s', ρ', he, hL', hs', hk⟩
    | goto l => exact ⟨s', ρ', he, hL', hs', hk⟩
    | ret => exact ⟨s', ρ', he, hL', hs', hk⟩
    | panic ch => exact ⟨s', ρ', he, hL', hs', hk⟩
    | outgrown => exact ⟨s', ρ', he, hL', hs', hk⟩
  | .cond c x y, .cond c' x' y', hc, Q, ρ, s, a, w, hL, hs, hw => by
    simp only [chkC, Bool.and_eq_true] at hc
    simp only [wpC] at hw
    have hv := chkX_ok hs hc.1.1
    split at hw
    · rename_i b hb
      rw [hb] at hv
      exact wp_cond_split hv.bool (fun e => code_ok hm hc.1.2 hL hs (hw.1 e)) (fun e => code_ok hm hc.2 hL hs (hw.2 e))
    · exact hw.elim
  | .block id c, .block id' c', hc, Q, ρ, s, a, w, hL, hs, hw => by
    simp only [chkC, Bool.and_eq_true, beq_iff_eq] at hc
    obtain ⟨rfl, hc⟩ := hc
    refine wp_block ?_
    refine wp_mono (code_ok hm hc hL hs hw) ?_
    rintro e a' w' ⟨s', ρ', he, hL', hs', hk⟩
    cases e with
    | exit id' =>
      simp only [Exit.inBlock]
      simp only at hk
      split
      · rename_i e; rw [if_pos e] at hk; exact ⟨s', ρ', he, hL', hs', hk⟩
      · rename_i e; rw [if_neg e] at hk; exact ⟨s', ρ', he, hL', hs', hk⟩
    | normal => exact ⟨s', ρ', he, hL', hs', hk⟩
    | goto l => exact ⟨s', ρ', he, hL', hs', hk⟩
    | ret => exact ⟨s', ρ', he, hL', hs', hk⟩
    | panic ch => exact ⟨s', ρ', he, hL', hs', hk⟩
    | outgrown => exact ⟨s', ρ', he, hL', hs', hk⟩
  | .loop c, .loop c', hc, Q, ρ, s, a, w, hL, hs, hw => by
    have hc' : chkC P nt c c' = true := hc
    simp only [wpC] at hw
    obtain ⟨I, μ, ⟨s0, hW, hI⟩, round⟩ := hw
    let R : Act → World → Nat → Prop := fun a w n => ∃ s' ρ', (∀ n, n < L0 → ρ' n = ρ n) ∧ L0 ≤ s'.σ.length ∧ SimS F ρ' nt s' a w ∧ I s' ∧ μ s' = n
    have hex : ∀ a w, (∃ n, R a w n) → ∃ n, R a w n ∧ ∀ m, R a w m → n ≤ m := fun a w h => least h
    let μ' : Act → World → Nat := fun a w => open Classical in if h : ∃ n, R a w n then Classical.choose (hex a w h) else 0
    have hμ : ∀ a w, (∃ n, R a w n) → R a w (μ' a w) ∧ ∀ m, R a w m → μ' a w ≤ m := by
      intro a w h
      have : μ' a w = Classical.choose (hex a w h) := by simp only [μ']; exact dif_pos h
      rw [this]
      exact Classical.choose_spec (hex a w h)
    refine wp_loop (fun a w => ∃ n, R a w n) μ' ?_ ?_
    · obtain ⟨ρ', he, hL', hs'⟩ := hW F ρ a w hL hs
      exact ⟨μ s0, s0, ρ', he, hL', hs', hI, rfl⟩
    · intro a w hR
      obtain ⟨⟨s', ρ', he, hL', hs', hI', hmu⟩, _⟩ := hμ a w hR
      refine wp_mono (code_ok hm hc' hL' hs' (round s' hI')) ?_
      rintro e a2 w2 ⟨s2, ρ2, he2, hL2, hs2, hk⟩
      cases e with
      | normal =>
        obtain ⟨s1, hW1, hI1, hlt⟩ := hk
        obtain ⟨ρ3, he3, hL3, hs3⟩ := hW1 F ρ2 a2 w2 hL2 hs2
        have hr1 : R a2 w2 (μ s1) := ⟨s1, ρ3, fun n hn => (he3 n hn).trans ((he2 n hn).trans (he n hn)), hL3, hs3, hI1, rfl⟩
        refine ⟨⟨_, hr1⟩, ?_⟩
        have := (hμ a2 w2 ⟨_, hr1⟩).2 _ hr1
        omega
      | exit id => exact ⟨s2, ρ2, fun n hn => (he2 n hn).trans (he n hn), hL2, hs2, hk⟩
      | goto l => exact ⟨s2, ρ2, fun n hn => (he2 n hn).trans (he n hn), hL2, hs2, hk⟩
      | ret => exact ⟨s2, ρ2, fun n hn => (he2 n hn).trans (he n hn), hL2, hs2, hk⟩
      | panic ch => exact ⟨s2, ρ2, fun n hn => (he2 n hn).trans (he n hn), hL2, hs2, hk⟩
      | outgrown => exact ⟨s2, ρ2, fun n hn => (he2 n hn).trans (he n hn), hL2, hs2, hk⟩
  | .exit id, .exit id', hc, Q, ρ, s, a, w, hL, hs, hw => by
    obtain rfl : id = id' := by simpa [chkC] using hc
    exact wp_exit ⟨s, ρ, fun _ _ => rfl, hL, hs, hw⟩
  | .ret, .ret, _, Q, ρ, s, a, w, hL, hs, hw => wp_ret ⟨s, ρ, fun _ _ => rfl, hL, hs, hw⟩
  | .region id ops false, .ops l, hc, Q, ρ, s, a, w, hL, hs, hw => region_ok hc hL hs hw
  | .region id ops true, .draw h l, hc, Q, ρ, s, a, w, hL, hs, hw => by
    simp only [chkC, Bool.and_eq_true] at hc
    exact draw_ok hm hc.1.1.1 hc.1.1.2 hc.1.2 hL hs hw
  | .region id ops true, .plan ix cs p, hc, Q, ρ, s, a, w, hL, hs, hw => plan_ok hm hc hL hs hw
end
/-! ### a function's call -/
def initT : Nat → List AV → List (Nat × AV)
  | _, [] => []
  | k, v :: l => (k, v) :: initT (k + 1) l
theorem initT_look : ∀ (l : List AV) (k t : Nat), look (initT k l) t = if k ≤ t then (l[t - k]?).getD .j else .j
  | [], k, t => by simp [initT, look]
  | v :: l, k, t => by
    simp only [initT, look]
    by_cases e : k = t
    · subst e; simp
    · rw [if_neg e, initT_look l (k + 1) t]
      by_cases h : k + 1 ≤ t
      · rw [if_pos h, if_pos (by omega), show t - k = (t - (k + 1)) + 1 from by omega]; simp
      · rw [if_neg h, if_neg (by omega)]
inductive RV where
  | t (n : Nat)
  | c (n : Nat) (k : Option Nat)
def chkR (P : Program) : List ResultVar → List RV → Bool
  | [], [] => true
  | .tmp t :: l, .t n :: r => t == n && chkR P l r
  | .cell t T :: l, .c n none :: r => t == n && notAgg P T && chkR P l r
  | .cell t T :: l, .c n (some k) :: r => t == n && isAggT P T && szIs P T k && chkR P l r
  | _, _ => false
def rvals (s : St) : List RV → (List AV → Prop) → Prop
  | [], K => K []
  | .t n :: r, K => rvals s r fun l => K (look s.T n :: l)
  | .c n none :: r, K => match look s.T n with
    | .p m o => match cellsOf s.σ m with
      | some cs => o < cs.length ∧ rvals s r fun l => K (rd cs o :: l)
      | none => False
    | _ => False
  | .c n (some k) :: r, K => match look s.T n with
    | .p m o => match cellsOf s.σ m with
      | some cs => o + k ≤ cs.length ∧ rvals s r fun l => K (.agg (win cs o k) :: l)
      | none => False
    | _ => False
def oneOf : List AV → (AV → Prop) → Prop
  | [v], K => K v
  | l, K => l.all AV.data = true ∧ K (.tup l)
def Fin (L0 : Nat) (σ : List AB) (v : AV) (K : AV → List AB → Prop) : Prop :=
  ∀ F ρ w cv, L0 ≤ σ.length → Sim F ρ σ w → M ρ σ.length v cv → ∃ σ1 v1 ρ1, (∀ n, n < L0 → ρ1 n = ρ n) ∧ L0 ≤ σ1.length ∧ Sim F ρ1 σ1 w ∧ M ρ1 σ1.length v1 cv ∧ K v1 σ1
def retP (L0 : Nat) (rs : List RV) (K : AV → List AB → Prop) : Exit → St → Prop
  | .normal, s | .ret, s => rvals s rs fun l => oneOf l fun v => Fin L0 s.σ v K
  | _, _ => False
def resR (tmps : Array Value) (r : ResultVar) : Sem Value :=
  match r with
  | .tmp t => pure (tmps.getD t undef)
  | .cell a t => do loadVar t (← asAddr (tmps.getD a undef))
theorem results_list (fn : Func) (tmps : Array Value) (P : Program) (w : World) (vs : List Value) (h : (fn.results.toList.mapM (resR tmps)).run P w = .ok vs w) :
    (results fn tmps).run P w = .ok (match vs with | [v] => v | l => .tuple l.toArray) w := by
  have e : results fn tmps = (do
    let vs ← fn.results.mapM (resR tmps)
    pure (if h : vs.size = 1 then vs[0] else .tuple vs)) := rfl
  rw [e, Array.mapM_eq_mapM_toList]
  simp only [Sem.run_bind, Sem.run_map, h, Result.andThen_ok, Sem.run_pure]
  congr 1
  match vs with
  | [] => simp
  | [v] => simp
  | _ :: _ :: _ => simp
theorem rvals_ok {P : Program} {F : Fr} {ρ : Pl} {nt : Nat} {s : St} {a : Act} {w : World} (hs : SimS F ρ nt s a w) : ∀ {l : List ResultVar} {rs : List RV} {K : List AV → Prop}, chkR P l rs = true → rvals s rs K →
    ∃ (xs : List AV) (vs : List Value), (l.mapM (resR a.tmps)).run P w = .ok vs w ∧ K xs ∧ xs.length = vs.length ∧ ∀ (k : Nat) (x : AV), xs[k]? = some x → ∃ v, vs[k]? = some v ∧ M ρ s.σ.length x v
  | [], [], K, _, h => ⟨[], [], by simp, h, rfl, by simp⟩
  | .tmp t :: l, .t n :: r, K, hc, h => by
    simp only [chkR, Bool.and_eq_true, beq_iff_eq] at hc
    obtain ⟨rfl, hc⟩ := hc
    obtain ⟨xs, vs, h1, h2, h3, h4⟩ := rvals_ok hs hc h
    refine ⟨look s.T t :: xs, a.tmps.getD t undef :: vs, ?_, h2, by simp [h3], ?_⟩
    · have hl : (resR a.tmps (.tmp t)).run P w = .ok (a.tmps.getD t undef) w := rfl
      simp only [List.mapM_cons, Sem.run_bind, hl, Result.andThen_ok, h1, Sem.run_pure]
    · intro k x hk
      cases k with
      | zero => simp at hk; subst hk; exact ⟨_, rfl, hs.2.2.2 t⟩
      | succ k => simpa using h4 k x (by simpa using hk)
  | .cell t T :: l, .c n none :: r, K, hc, h => by
    simp only [chkR, Bool.and_eq_true, beq_iff_eq] at hc
    obtain ⟨⟨rfl, hT⟩, hc⟩ := hc
    simp only [rvals] at h
    have hp := hs.2.2.2 t
    split at h
    · rename_i m o hq
      rw [hq] at hp
      split at h
      · rename_i cs hcs
        obtain ⟨xs, vs, h1, h2, h3, h4⟩ := rvals_ok hs hc h.2
        obtain ⟨c, T', fr, h5, h6⟩ := cell_of hs.1 hcs (fun e => by rw [e] at h; simp at h)
        obtain ⟨u, hu, hm⟩ := h6 o _ (List.getElem?_eq_getElem h.1)
        have hcell : w.cell? (ad ρ m o) = some u := by unfold ad; rw [cell_row h5]; exact hu
        have hl : (resR a.tmps (.cell t T)).run P w = .ok u w := by
          simp only [resR]
          rw [hp.ptr.2]
          simp [asAddr, loadVar, notAgg_run (P := P) (w := w) hT, hcell]
        refine ⟨rd cs o :: xs, u :: vs, ?_, h2, by simp [h3], ?_⟩
        · simp only [List.mapM_cons, Sem.run_bind, hl, Result.andThen_ok, h1, Sem.run_pure]
        · intro k x hk
          cases k with
          | zero => simp at hk; subst hk; exact ⟨_, rfl, M.ofMC (by simp only [rd, List.getElem?_eq_getElem h.1, Option.getD_some]; exact hm)⟩
          | succ k => simpa using h4 k x (by simpa using hk)
      · exact h.elim
    · exact h.elim
  | .cell t T :: l, .c n (some k0) :: r, K, hc, h => by
    simp only [chkR, Bool.and_eq_true, beq_iff_eq] at hc
    obtain ⟨⟨⟨rfl, hT⟩, hz⟩, hc⟩ := hc
    simp only [rvals] at h
    have hp := hs.2.2.2 t
    split at h
    · rename_i m o hq
      rw [hq] at hp
      split at h
      · rename_i cs hcs
        obtain ⟨xs, vs, h1, h2, h3, h4⟩ := rvals_ok hs hc h.2
        obtain ⟨us, hm, hul, hcell⟩ := win_vals hs.1 hcs h.1
        have hr := run_loadCells_list (P := P) w (ad ρ m o) us hcell
        rw [hul] at hr
        have hl : (resR a.tmps (.cell t T)).run P w = .ok (.agg us.toArray) w := by
          simp only [resR]
          rw [hp.ptr.2]
          simp [asAddr, loadVar, isAggT_run (P := P) (w := w) hT, szIs_run (P := P) (w := w) hz, hr]
        refine ⟨.agg (win cs o k0) :: xs, .agg us.toArray :: vs, ?_, h2, by simp [h3], ?_⟩
        · simp only [List.mapM_cons, Sem.run_bind, hl, Result.andThen_ok, h1, Sem.run_pure]
        · intro k x hk
          cases k with
          | zero => simp at hk; subst hk; exact ⟨_, rfl, by simp only [M, M1]; exact ⟨us, rfl, hm⟩⟩
          | succ k => simpa using h4 k x (by simpa using hk)
      · exact h.elim
    · exact h.elim
  | [], _ :: _, _, h, _ => by cases h
  | .tmp _ :: _, [], _, h, _ => by cases h
  | .cell _ _ :: _, [], _, h, _ => by cases h
  | .tmp _ :: _, .c _ _ :: _, _, h, _ => by cases h
  | .cell _ _ :: _, .t _ :: _, _, h, _ => by cases h
theorem call_ok {P : Program} (hm : P.follows .mixedOrders = true) {f : FuncId} {fn : Func} {code : Code} {lc : LC} {rs : List RV} {args : List AV} {σ : List AB} {K : AV → List AB → Prop}
    (hf : P.funcs[f]? = some fn) (hb : fn.body = some code) (hname : (fn.name == "runtime.NumGoroutine") = false) (hc : chkC P fn.ntmps code lc = true) (hr : chkR P fn.results.toList rs = true) (hn : args.length ≤ fn.ntmps)
    (hw : wpC P σ.length fn.ntmps lc (retP σ.length rs K) ⟨initT 0 args, σ⟩) : CallWp P f args σ K := by
  refine ⟨⟨fn, hf, hname, by rw [hb]; rfl⟩, ?_⟩
  intro F ρ w vs hs hv
  have hlen : args.length = vs.length := by
    have : ∀ {l : List AV} {vs : List Value}, M1s ρ σ.length l vs → l.length = vs.length := by
      intro l
      induction l with
      | nil => intro vs h; cases vs with | nil => rfl | cons _ _ => exact h.elim
      | cons x l ih => intro vs h; cases vs with | nil => exact h.elim | cons _ _ => simp [ih h.2]
    exact this hv
  refine calls_of_wp hf hb ?_
  have hsim : SimS F ρ fn.ntmps ⟨initT 0 args, σ⟩ { tmps := vs.toArray ++ Array.replicate (fn.ntmps - vs.toArray.size) undef, defers := [] } w := by
    refine ⟨hs, rfl, by simp; omega, fun t => ?_⟩
    simp only
    rw [initT_look]
    simp only [Nat.zero_le, if_true, Nat.sub_zero]
    cases hx : args[t]? with
    | none => trivial
    | some x =>
      obtain ⟨v, hv1, hm1⟩ := hv.get hx
      have hlt := (List.getElem?_eq_some_iff.1 hv1).1
      have : (vs.toArray ++ Array.replicate (fn.ntmps - vs.toArray.size) undef).getD t undef = v := by
        rw [Array.getD_eq_getD_getElem?, Array.getElem?_append_left (by simpa using hlt)]
        simp [hv1]
      rw [this]
      exact M.ofM1 hm1
  refine wp_mono (code_ok hm hc (Nat.le_refl _) hsim hw) ?_
  rintro e a' w' ⟨s', ρ', he, hL, hs', hk⟩
  have fin : (rvals s' rs fun l => oneOf l fun v => Fin σ.length s'.σ v K) → a'.defers = [] ∧ ∃ v, (results fn a'.tmps).run P w' = .ok v w' ∧ ∃ v_1 x σ'_1 ρ'_1, (Ending.returned v = Ending.returned v_1) ∧ Sim F ρ'_1 σ'_1 w' ∧ σ.length ≤ σ'_1.length ∧ (∀ n, n < σ.length → ρ'_1 n = ρ n) ∧ M ρ'_1 σ'_1.length x v_1 ∧ K x σ'_1 := by
    intro hk
    refine ⟨hs'.2.1, ?_⟩
    obtain ⟨xs, us, h1, h2, h3, h4⟩ := rvals_ok hs' hr hk
    refine ⟨_, results_list fn a'.tmps P w' us h1, ?_⟩
    have close : ∀ (x : AV) (cv : Value), Fin σ.length s'.σ x K → M ρ' s'.σ.length x cv → ∃ v_1 x σ'_1 ρ'_1, (Ending.returned cv = Ending.returned v_1) ∧ Sim F ρ'_1 σ'_1 w' ∧ σ.length ≤ σ'_1.length ∧ (∀ n, n < σ.length → ρ'_1 n = ρ n) ∧ M ρ'_1 σ'_1.length x v_1 ∧ K x σ'_1 := by
      intro x cv hfin hmx
      obtain ⟨σ1, v1, ρ1, e1, e2, e3, e4, e5⟩ := hfin F ρ' w' cv hL hs'.1 hmx
      exact ⟨cv, v1, σ1, ρ1, rfl, e3, e2, fun n hn => (e1 n hn).trans (he n hn), e4, e5⟩
    match xs, us, h3 with
    | [x], [v], _ =>
      obtain ⟨v', hv', hmv⟩ := h4 0 x rfl
      simp at hv'; subst hv'
      exact close x v h2 hmv
    | [], [], _ =>
      exact close _ _ h2.2 (by simp only [M]; exact ⟨[], rfl, trivial⟩)
    | x :: y :: l, u :: v :: r, _ =>
      refine close _ _ h2.2 (by
        simp only [M]
        refine ⟨u :: v :: r, rfl, ?_⟩
        have hall := h2.1
        have gen : ∀ (l : List AV) (r : List Value), l.length = r.length → l.all AV.data = true → (∀ (k : Nat) (x : AV), l[k]? = some x → ∃ v, r[k]? = some v ∧ M ρ' s'.σ.length x v) → M1s ρ' s'.σ.length l r := by
          intro l
          induction l with
          | nil => intro r hl _ _; cases r with | nil => trivial | cons _ _ => simp at hl
          | cons x l ih =>
            intro r hl hd h
            cases r with
            | nil => simp at hl
            | cons v r =>
              simp only [List.all_cons, Bool.and_eq_true] at hd
              obtain ⟨v', hv', hmv⟩ := h 0 x rfl
              simp at hv'; subst hv'
              exact ⟨hmv.m1 hd.1, ih r (by simpa using hl) hd.2 fun k x hk => by simpa using h (k + 1) x (by simpa using hk)⟩
        exact gen _ _ (by assumption) hall h4)
  cases e with
  | normal => exact fin hk
  | ret => exact fin hk
  | exit id => exact hk.elim
  | goto l => exact hk.elim
  | panic ch => exact hk.elim
  | outgrown => exact hk.elim
end Go.Abs
