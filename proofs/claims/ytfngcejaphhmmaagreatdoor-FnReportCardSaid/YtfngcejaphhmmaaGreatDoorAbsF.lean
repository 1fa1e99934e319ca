import Derived.Test.YtfngcejaphhmmaaGreatDoorAbsE
namespace Go.Abs
set_option linter.unusedVariables false
set_option linter.unusedSimpArgs false
structure LI where
  d : Option Nat
  g : Option (Nat × Bool)
  o : LO
/-- In which orders the operations of a region that touch the heap may come: (number, operation, loads that may still be open, what is free then). -/
inductive Plan where
  | fin
  | one (i : Nat) (c : LI) (pend : List (Nat × Option Nat × Nat)) (ix : List Nat) (cs : List LI) (p : Plan)
  | alt (p q : Plan)
inductive LC where
  | skip
  | seq (a b : LC)
  | cond (c : X) (a b : LC)
  | block (id : Nat) (c : LC)
  | loop (c : LC)
  | exit (id : Nat)
  | ret
  | ops (l : List LI)
  | draw (h : Nat) (l : List LI)
  | plan (ix : List Nat) (cs : List LI) (p : Plan)
  | cut (c : LC)
def LC.join (a b : LC) : LC := .seq a (.cut b)
def St.put (s : St) (d : Option Nat) (v : AV) (σ : List AB) : St :=
  match d with
  | some d => ⟨(d, v) :: s.T, σ⟩
  | none => ⟨s.T, σ⟩
def St.ref (s : St) (g : Nat) (b : Bool) : St := ⟨(g, .b b) :: s.T, s.σ⟩
def wpI (P : Program) : List LI → St → (St → Prop) → Prop
  | [], s, K => K s
  | c :: r, s, K => match c.g with
    | none => wpO P c.o s fun v σ => wpI P r (s.put c.d v σ) K
    | some (g, b) => match look s.T g with
      | .b x => bc (x == b) (wpO P c.o (s.ref g b) fun v σ => wpI P r ((s.ref g b).put c.d v σ) K) (wpI P r ((s.ref g !b).put c.d (.tup []) s.σ) K)
      | .tup [] => wpI P r (s.put c.d (.tup []) s.σ) K
      | _ => False
def pureO : LO → Bool
  | .mv _ | .pick .. | .bin .. | .beq .. | .aeq .. | .not _ | .neg _ | .ld _ | .ldn .. | .fa .. | .ia .. | .fld .. | .build .. | .slc .. | .len _ | .slen _ | .mn .. | .mx .. | .mkf .. | .ext .. | .conv .. | .nilc _ | .sadd .. | .scmp .. | .sidx .. | .sslc .. | .cvb _ | .inil .. => true
  | _ => false
def wpP (P : Program) (o : LO) (s : St) (K : AV → Prop) : Prop :=
  match o with
  | .call f args => match ev s.T f with
    | .fn g a c => (args.map (ev s.T)).all AV.data = true ∧ ∃ v, CallWp P g (pAV a ++ args.map (ev s.T) ++ pAV c) s.σ (fun x σ => x = v ∧ σ = s.σ) ∧ K v
    | _ => False
  | o => pureO o = true ∧ wpO P o s fun v _ => K v
def wpQ (P : Program) : Nat → List LI → St → (List LI → St → Prop) → Prop
  | 0, l, s, K => K l s
  | _ + 1, [], s, K => False
  | h + 1, c :: r, s, K => match c.g with
    | none => wpP P c.o s fun v => wpQ P h r (s.put c.d v s.σ) K
    | some (g, b) => match look s.T g with
      | .b x => bc (x == b) (wpP P c.o (s.ref g b) fun v => wpQ P h r ((s.ref g b).put c.d v s.σ) K) (wpQ P h r ((s.ref g !b).put c.d (.tup []) s.σ) K)
      | .tup [] => wpQ P h r (s.put c.d (.tup []) s.σ) K
      | _ => False
def wpF (P : Program) (l : List LI) (s : St) (K : St → Prop) : Prop := wpQ P l.length l s fun _ s => K s
def stabs (P : Program) (T : List (Nat × AV)) (σ : List AB) : List (Nat × Option Nat × Nat) → Prop
  | [] => True
  | (d, none, t) :: r => wpO P (.ld (.t t)) ⟨T, σ⟩ (fun v _ => v = look T d) ∧ stabs P T σ r
  | (d, some k, t) :: r => wpO P (.ldn k (.t t)) ⟨T, σ⟩ (fun v _ => v = look T d) ∧ stabs P T σ r
def wpPlan (P : Program) : Plan → St → (St → Prop) → Prop
  | .fin, s, K => K s
  | .one _ c pend _ cs p, s, K => match c.g with
    | none => wpO P c.o s fun v σ => stabs P (s.put c.d v σ).T σ pend ∧ wpF P cs (s.put c.d v σ) fun s => wpPlan P p s K
    | some (g, b) => match look s.T g with
      | .b x => bc (x == b) (wpO P c.o (s.ref g b) fun v σ => stabs P ((s.ref g b).put c.d v σ).T σ pend ∧ wpF P cs ((s.ref g b).put c.d v σ) fun s => wpPlan P p s K)
        (stabs P ((s.ref g !b).put c.d (.tup []) s.σ).T s.σ pend ∧ wpF P cs ((s.ref g !b).put c.d (.tup []) s.σ) fun s => wpPlan P p s K)
      | .tup [] => stabs P (s.put c.d (.tup []) s.σ).T s.σ pend ∧ wpF P cs (s.put c.d (.tup []) s.σ) fun s => wpPlan P p s K
      | _ => False
  | .alt p q, s, K => wpPlan P p s K ∧ wpPlan P q s K
def Wk (L0 nt : Nat) (s s1 : St) : Prop :=
  ∀ F ρ a w, L0 ≤ s.σ.length → SimS F ρ nt s a w → ∃ ρ', (∀ n, n < L0 → ρ' n = ρ n) ∧ L0 ≤ s1.σ.length ∧ SimS F ρ' nt s1 a w
def wpC (P : Program) (L0 nt : Nat) : LC → (Exit → St → Prop) → St → Prop
  | .skip, Q, s => Q .normal s
  | .seq a b, Q, s => wpC P L0 nt a (fun e s' => match e with | .normal => wpC P L0 nt b Q s' | e => Q e s') s
  | .cond c a b, Q, s => match ev s.T c with
    | .b x => bc x (wpC P L0 nt a Q s) (wpC P L0 nt b Q s)
    | _ => False
  | .block id c, Q, s => wpC P L0 nt c (fun e s' => match e with | .exit id' => if id' = id then Q .normal s' else Q (.exit id') s' | e => Q e s') s
  | .loop c, Q, s => ∃ (I : St → Prop) (μ : St → Nat), (∃ s0, Wk L0 nt s s0 ∧ I s0) ∧
      ∀ s', I s' → wpC P L0 nt c (fun e s'' => match e with | .normal => ∃ s1, Wk L0 nt s'' s1 ∧ I s1 ∧ μ s1 < μ s' | e => Q e s'') s'
  | .exit id, Q, s => Q (.exit id) s
  | .ret, Q, s => Q .ret s
  | .ops l, Q, s => wpI P l s (Q .normal)
  | .draw h l, Q, s => wpQ P h l s fun r s' => wpI P r s' (Q .normal)
  | .plan _ cs p, Q, s => wpF P cs s fun s' => wpPlan P p s' (Q .normal)
  | .cut c, Q, s => ∃ s1, Wk L0 nt s s1 ∧ wpC P L0 nt c Q s1
/-! ### the checker -/
def chkI (P : Program) (nt : Nat) (ops : Array Oper) (o : Oper) (c : LI) : Bool :=
  o.dst == c.d && (match c.d with | some d => decide (d < nt) | none => true) &&
  (match o.guard, c.g with
  | none, none => true
  | some (j, b), some (g, b') => b == b' && (ops[j]?).bind (·.dst) == some g
  | _, _ => false) && chkO P o c.o
def chkL (P : Program) (nt : Nat) (ops : Array Oper) : List Oper → List LI → Bool
  | [], [] => true
  | o :: l, c :: r => chkI P nt ops o c && chkL P nt ops l r
  | _, _ => false
/-! ### the order of the text -/
def Post (F : Fr) (ρ : Pl) (nt L0 : Nat) (Q : Exit → St → Prop) (e : Exit) (a' : Act) (w' : World) : Prop :=
  ∃ s' ρ', (∀ n, n < L0 → ρ' n = ρ n) ∧ L0 ≤ s'.σ.length ∧ SimS F ρ' nt s' a' w' ∧ Q e s'
theorem SimS.refd {F : Fr} {ρ : Pl} {nt : Nat} {s : St} {a : Act} {w : World} (h : SimS F ρ nt s a w) {g : Nat} {b : Bool} (hg : look s.T g = .b b) : SimS F ρ nt (s.ref g b) a w := by
  refine ⟨h.1, h.2.1, h.2.2.1, fun t => ?_⟩
  simp only [St.ref, look]
  by_cases e : g = t
  · subst e; rw [if_pos rfl, ← hg]; exact h.2.2.2 g
  · rw [if_neg e]; exact h.2.2.2 t
theorem SimS.putd {F : Fr} {ρ ρ' : Pl} {nt : Nat} {s : St} {a : Act} {w w' : World} (h : SimS F ρ nt s a w) {σ' : List AB} (h' : Sim F ρ' σ' w') (hN : s.σ.length ≤ σ'.length)
    (he : ∀ n, n < s.σ.length → ρ' n = ρ n) {d : Option Nat} (hd : (match d with | some d => decide (d < nt) | none => true) = true) {x : AV} {v : Value} (hx : M ρ' σ'.length x v) : SimS F ρ' nt (s.put d x σ') (a.put d v) w' := by
  cases d with
  | none => exact h.same h' hN he
  | some d => exact h.put h' hN he (by simpa using hd) hx
theorem yields {F : Fr} {ρ : Pl} {nt : Nat} {s : St} {a : Act} {w : World} (h : SimS F ρ nt s a w) {ops : Array Oper} {j g : Nat} (hj : (ops[j]?).bind (·.dst) = some g) {x : Bool} (hg : look s.T g = .b x) : yielded ops a.tmps j = some x := by
  have hm := h.2.2.2 g
  rw [hg] at hm
  have hv := hm.bool
  have : a.tmps[g]? = some (.bool x) := by
    rw [Array.getD_eq_getD_getElem?] at hv
    cases hq : a.tmps[g]? with
    | none => rw [hq] at hv; cases hv
    | some v => rw [hq] at hv; simpa using hv
  simp [yielded, hj, this]
theorem yields_no {F : Fr} {ρ : Pl} {nt : Nat} {s : St} {a : Act} {w : World} (h : SimS F ρ nt s a w) {ops : Array Oper} {j g : Nat} (hj : (ops[j]?).bind (·.dst) = some g) (hg : look s.T g = .tup []) : yielded ops a.tmps j = none := by
  have hm := h.2.2.2 g
  rw [hg] at hm
  obtain ⟨vs, hv, hl⟩ := hm
  cases vs with
  | cons v vs => exact hl.elim
  | nil =>
    simp only [yielded, hj, Option.bind_some]
    rw [Array.getD_eq_getD_getElem?] at hv
    cases hq : a.tmps[g]? with
    | none => rfl
    | some v => rw [hq] at hv; simp only [Option.getD_some] at hv; subst hv; rfl
section
variable {P : Program} {ops : Array Oper} {nt : Nat} {F : Fr}
theorem wpOp_ok {i : Nat} {o : Oper} (hi : ops[i]? = some o) {c : LI} (hc : chkI P nt ops o c = true) {ρ : Pl} {s : St} {a : Act} {w : World} (hs : SimS F ρ nt s a w) {K : St → Prop} {K' : Act → World → Prop} {Q : Exit → Act → World → Prop}
    (hw : match c.g with
      | none => wpO P c.o s fun v σ => K (s.put c.d v σ)
      | some (g, b) => match look s.T g with
        | .b x => bc (x == b) (wpO P c.o (s.ref g b) fun v σ => K ((s.ref g b).put c.d v σ)) (K ((s.ref g !b).put c.d (.tup []) s.σ))
        | .tup [] => K (s.put c.d (.tup []) s.σ)
        | _ => False)
    (hn : ∀ s' ρ' a' w', K s' → (∀ n, n < s.σ.length → ρ' n = ρ n) → s.σ.length ≤ s'.σ.length → SimS F ρ' nt s' a' w' → K' a' w') : wpOp P ops Q i K' a w := by
  simp only [chkI, Bool.and_eq_true, beq_iff_eq] at hc
  obtain ⟨⟨⟨hd, hdn⟩, hg⟩, ho⟩ := hc
  unfold wpOp
  simp only [hi]
  have run : ∀ (s0 : St), s0.σ = s.σ → SimS F ρ nt s0 a w → wpO P c.o s0 (fun v σ => K (s0.put c.d v σ)) → o.wp P a w K' Q := by
    intro s0 h0 hs0 hw0
    refine op_ok ho hs0 hw0 ?_
    intro x v ρ' σ' w' hk hsim hN he hm
    refine hn _ ρ' _ _ hk (fun n h => he n (by rw [h0]; exact h)) ?_ (by rw [hd]; exact hs0.putd hsim hN he hdn hm)
    rw [← h0]
    cases c.d <;> simpa [St.put] using hN
  cases hcg : c.g with
  | none =>
    rw [hcg] at hw hg
    cases hog : o.guard with
    | some p => rw [hog] at hg; cases hg
    | none =>
      rw [if_pos (by simp [Region.wanted, hog])]
      exact .inl (run s rfl hs hw)
  | some p =>
    obtain ⟨g, b⟩ := p
    rw [hcg] at hw hg
    cases hog : o.guard with
    | none => rw [hog] at hg; cases hg
    | some q =>
      obtain ⟨j, b'⟩ := q
      rw [hog] at hg
      simp only [Bool.and_eq_true, beq_iff_eq] at hg
      obtain ⟨rfl, hj⟩ := hg
      simp only at hw
      split at hw
      · rename_i x hx
        have hy := yields hs hj hx
        by_cases e : x = b'
        · subst e
          rw [if_pos (by simp [Region.wanted, hog, hy])]
          exact .inl (run (s.ref g x) rfl (hs.refd hx) (hw.1 (by simp)))
        · have e' : x = !b' := by cases x <;> cases b' <;> simp_all
          rw [if_neg (by simp [Region.wanted, hog, hy, e])]
          have hx' : look s.T g = .b (!b') := by rw [hx, e']
          have hr := hs.refd hx'
          refine hn _ ρ _ _ (hw.2 (by simp [e'])) (fun _ _ => rfl) (by cases c.d <;> simp [St.put, St.ref]) ?_
          rw [hd]
          exact hr.putd hr.1 (Nat.le_refl _) (fun _ _ => rfl) hdn ⟨[], rfl, trivial⟩
      · rename_i hx
        have hy : yielded ops a.tmps j = none := yields_no hs hj hx
        rw [if_neg (by simp [Region.wanted, hog, hy])]
        refine hn _ ρ _ _ hw (fun _ _ => rfl) (by cases c.d <;> simp [St.put]) ?_
        rw [hd]
        exact hs.putd hs.1 (Nat.le_refl _) (fun _ _ => rfl) hdn ⟨[], rfl, trivial⟩
      · exact hw.elim
theorem wpI_ok {Q : Exit → Act → World → Prop} {K : St → Prop} : ∀ {l : List LI} {os : List Oper} {i : Nat}, ops.toList.drop i = os → chkL P nt ops os l = true → ∀ {ρ : Pl} {s : St} {a : Act} {w : World}, SimS F ρ nt s a w → wpI P l s K →
    (∀ s' ρ' a' w', K s' → (∀ n, n < s.σ.length → ρ' n = ρ n) → s.σ.length ≤ s'.σ.length → SimS F ρ' nt s' a' w' → Q .normal a' w') → wpOps P ops Q (List.range' i os.length) a w
  | [], [], i, hd, _, ρ, s, a, w, hs, hw, hn => by
    simp only [List.length_nil, List.range'_zero, wpOps]
    exact hn s ρ a w hw (fun _ _ => rfl) (Nat.le_refl _) hs
  | c :: r, o :: os, i, hd, hc, ρ, s, a, w, hs, hw, hn => by
    simp only [chkL, Bool.and_eq_true] at hc
    have hi : ops[i]? = some o := by
      have : (ops.toList.drop i)[0]? = some o := by rw [hd]; rfl
      rw [List.getElem?_drop] at this
      simpa using this
    have hd' : ops.toList.drop (i + 1) = os := by
      have : (ops.toList.drop i).drop 1 = os := by rw [hd]; rfl
      rw [List.drop_drop] at this
      exact this
    simp only [List.length_cons, List.range'_succ]
    rw [wpOps_cons]
    refine wpOp_ok hi hc.1 hs (K := fun s' => wpI P r s' K) ?_ ?_
    · simp only [wpI] at hw
      cases hcg : c.g with
      | none => rw [hcg] at hw; exact hw
      | some p => rw [hcg] at hw; exact hw
    · intro s' ρ' a' w' hk he hN hs'
      exact wpI_ok hd' hc.2 hs' hk fun s2 ρ2 a2 w2 hk2 he2 hN2 hs2 => hn s2 ρ2 a2 w2 hk2 (fun n h => (he2 n (by omega)).trans (he n h)) (by omega) hs2
  | [], _ :: _, _, _, h, _, _, _, _, _, _, _ => by cases h
  | _ :: _, [], _, _, h, _, _, _, _, _, _, _ => by cases h
theorem region_ok {id : Nat} {l : List LI} (hc : chkL P nt ops ops.toList l = true) {L0 : Nat} {ρ : Pl} {s : St} {a : Act} {w : World} {Q : Exit → St → Prop} (hL : L0 ≤ s.σ.length) (hs : SimS F ρ nt s a w) (hw : wpI P l s (Q .normal)) :
    (Code.region id ops false).wp P (Post F ρ nt L0 Q) a w := by
  refine wp_region ?_
  have h := wpI_ok (Q := Post F ρ nt L0 Q) (i := 0) (os := ops.toList) (by simp) hc hs hw ?_
  · rw [List.range_eq_range']
    simpa using h
  · intro s' ρ' a' w' hk he hN hs'
    exact ⟨s', ρ', fun n h => he n (by omega), by omega, hs', hk⟩
end
end Go.Abs
