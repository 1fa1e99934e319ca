import Derived.Test.YtfngcejaphhmmaaGreatDoorAbsF
namespace Go.Abs
set_option linter.unusedVariables false
set_option linter.unusedSimpArgs false
def xt : X → List Nat
  | .t n => [n]
  | .k _ => []
def xts : List X → List Nat
  | [] => []
  | x :: l => xt x ++ xts l
def xto : Option X → List Nat
  | none => []
  | some x => xt x
def xtp : List (Nat × Nat × X) → List Nat
  | [] => []
  | (_, _, x) :: l => xt x ++ xtp l
def tms : LO → List Nat
  | .mv x | .not x | .neg x | .ld x | .ldn _ x | .fa _ x | .fld _ x | .len x | .slen x | .ext _ x | .conv _ x | .nilc x | .cvb x | .inil _ x => xt x
  | .pick c a b => xt c ++ xt a ++ xt b
  | .bin _ x y | .beq _ x y | .aeq _ _ x y | .ia _ x y | .mn x y | .mx x y | .sadd x y | .scmp _ x y | .sidx x y => xt x ++ xt y
  | .sslc x lo hi => xt x ++ xto lo ++ xto hi
  | .build _ p => xtp p
  | .slc _ x lo hi mx => xt x ++ xto lo ++ xto hi ++ xto mx
  | .mkf _ a c => xts a ++ xts c
  | .call f l => xt f ++ xts l
  | _ => []
theorem ev_congr {T T' : List (Nat × AV)} {x : X} (h : ∀ t ∈ xt x, look T t = look T' t) : ev T x = ev T' x := by
  cases x with
  | t n => exact h n (by simp [xt])
  | k v => rfl
theorem evs_congr {T T' : List (Nat × AV)} : ∀ {l : List X}, (∀ t ∈ xts l, look T t = look T' t) → l.map (ev T) = l.map (ev T')
  | [], _ => rfl
  | x :: l, h => by
    simp only [List.map_cons]
    rw [ev_congr fun t ht => h t (by simp [xts, ht]), evs_congr fun t ht => h t (by simp [xts, ht])]
theorem evo_congr {T T' : List (Nat × AV)} {x : Option X} (h : ∀ t ∈ xto x, look T t = look T' t) : x.map (ev T) = x.map (ev T') := by
  cases x with
  | none => rfl
  | some x => simp only [Option.map_some]; rw [ev_congr h]
theorem fillP_congr {T T' : List (Nat × AV)} {K : List AV → Prop} : ∀ {l : List (Nat × Nat × X)} {z : List AV}, (∀ t ∈ xtp l, look T t = look T' t) → fillP T z l K = fillP T' z l K
  | [], _, _ => rfl
  | (o, n, x) :: l, z, h => by
    simp only [fillP]
    rw [ev_congr fun t ht => h t (by simp [xtp, ht]), fillP_congr fun t ht => h t (by simp [xtp, ht])]
theorem toPs_congr {T T' : List (Nat × AV)} : ∀ {l : List X}, (∀ t ∈ xts l, look T t = look T' t) → toPs T l = toPs T' l
  | [], _ => rfl
  | x :: l, h => by
    simp only [toPs]
    rw [ev_congr fun t ht => h t (by simp [xts, ht]), toPs_congr fun t ht => h t (by simp [xts, ht])]
theorem wpO_congr {P : Program} {T T' : List (Nat × AV)} {σ : List AB} {K : AV → List AB → Prop} {o : LO} (hp : pureO o = true) (h : ∀ t ∈ tms o, look T t = look T' t) : wpO P o ⟨T, σ⟩ K = wpO P o ⟨T', σ⟩ K := by
  cases o <;> first | cases hp | skip
  case mv x => simp only [wpO, ev_congr h]
  case pick c a b =>
    have h1 := ev_congr (T := T) (T' := T') (x := c) fun t ht => h t (by simp [tms, ht])
    have h2 := ev_congr (T := T) (T' := T') (x := a) fun t ht => h t (by simp [tms, ht])
    have h3 := ev_congr (T := T) (T' := T') (x := b) fun t ht => h t (by simp [tms, ht])
    simp only [wpO, h1, h2, h3]
  case bin op x y =>
    have h1 := ev_congr (T := T) (T' := T') (x := x) fun t ht => h t (by simp [tms, ht])
    have h2 := ev_congr (T := T) (T' := T') (x := y) fun t ht => h t (by simp [tms, ht])
    simp only [wpO, h1, h2]
  case beq n x y =>
    have h1 := ev_congr (T := T) (T' := T') (x := x) fun t ht => h t (by simp [tms, ht])
    have h2 := ev_congr (T := T) (T' := T') (x := y) fun t ht => h t (by simp [tms, ht])
    simp only [wpO, h1, h2]
  case aeq n q x y =>
    have h1 := ev_congr (T := T) (T' := T') (x := x) fun t ht => h t (by simp [tms, ht])
    have h2 := ev_congr (T := T) (T' := T') (x := y) fun t ht => h t (by simp [tms, ht])
    simp only [wpO, h1, h2]
  case ia n x y =>
    have h1 := ev_congr (T := T) (T' := T') (x := x) fun t ht => h t (by simp [tms, ht])
    have h2 := ev_congr (T := T) (T' := T') (x := y) fun t ht => h t (by simp [tms, ht])
    simp only [wpO, h1, h2]
  case mn x y =>
    have h1 := ev_congr (T := T) (T' := T') (x := x) fun t ht => h t (by simp [tms, ht])
    have h2 := ev_congr (T := T) (T' := T') (x := y) fun t ht => h t (by simp [tms, ht])
    simp only [wpO, h1, h2]
  case mx x y =>
    have h1 := ev_congr (T := T) (T' := T') (x := x) fun t ht => h t (by simp [tms, ht])
    have h2 := ev_congr (T := T) (T' := T') (x := y) fun t ht => h t (by simp [tms, ht])
    simp only [wpO, h1, h2]
  case build z p => simp only [wpO, fillP_congr (K := fun cs => K (.agg cs) σ) h]
  case slc sz x lo hi mx =>
    have h1 := ev_congr (T := T) (T' := T') (x := x) fun t ht => h t (by simp [tms, ht])
    have h2 := evo_congr (T := T) (T' := T') (x := lo) fun t ht => h t (by simp [tms, ht])
    have h3 := evo_congr (T := T) (T' := T') (x := hi) fun t ht => h t (by simp [tms, ht])
    have h4 := evo_congr (T := T) (T' := T') (x := mx) fun t ht => h t (by simp [tms, ht])
    cases lo with
    | none => simp only [wpO, h1, h3, h4, Option.map_none]
    | some lo =>
      simp only [Option.map_some, Option.some.injEq] at h2
      simp only [wpO, h1, h2, h3, h4, Option.map_some]
  case sadd x y =>
    have h1 := ev_congr (T := T) (T' := T') (x := x) fun t ht => h t (by simp [tms, ht])
    have h2 := ev_congr (T := T) (T' := T') (x := y) fun t ht => h t (by simp [tms, ht])
    simp only [wpO, h1, h2]
  case scmp n x y =>
    have h1 := ev_congr (T := T) (T' := T') (x := x) fun t ht => h t (by simp [tms, ht])
    have h2 := ev_congr (T := T) (T' := T') (x := y) fun t ht => h t (by simp [tms, ht])
    simp only [wpO, h1, h2]
  case sidx x y =>
    have h1 := ev_congr (T := T) (T' := T') (x := x) fun t ht => h t (by simp [tms, ht])
    have h2 := ev_congr (T := T) (T' := T') (x := y) fun t ht => h t (by simp [tms, ht])
    simp only [wpO, h1, h2]
  case sslc x lo hi =>
    have h1 := ev_congr (T := T) (T' := T') (x := x) fun t ht => h t (by simp [tms, ht])
    have h2 := evo_congr (T := T) (T' := T') (x := lo) fun t ht => h t (by simp [tms, ht])
    have h3 := evo_congr (T := T) (T' := T') (x := hi) fun t ht => h t (by simp [tms, ht])
    simp only [wpO, h1, h2, h3]
  case mkf g a c =>
    have h1 := toPs_congr (T := T) (T' := T') (l := a) fun t ht => h t (by simp [tms, ht])
    have h2 := toPs_congr (T := T) (T' := T') (l := c) fun t ht => h t (by simp [tms, ht])
    simp only [wpO, h1, h2]
  all_goals (simp only [wpO, ev_congr h])
theorem wpP_congr {P : Program} {T T' : List (Nat × AV)} {σ : List AB} {K : AV → Prop} {o : LO} (h : ∀ t ∈ tms o, look T t = look T' t) : wpP P o ⟨T, σ⟩ K = wpP P o ⟨T', σ⟩ K := by
  cases o
  case call f l =>
    have h1 := ev_congr (T := T) (T' := T') (x := f) fun t ht => h t (by simp [tms, ht])
    have h2 := evs_congr (T := T) (T' := T') (l := l) fun t ht => h t (by simp [tms, ht])
    simp only [wpP, h1, h2]
  all_goals
    simp only [wpP]
    first
      | (rw [wpO_congr rfl h]; done)
      | simp [pureO]
theorem wpO_det {P : Program} {s : St} {K : AV → Prop} {o : LO} (hp : pureO o = true) (h : wpO P o s fun v _ => K v) : ∃ v, K v ∧ ∀ K' : AV → List AB → Prop, K' v s.σ → wpO P o s K' := by
  cases o <;> first | cases hp | skip
  case build z p =>
    simp only [wpO] at h ⊢
    suffices hh : ∀ (l : List (Nat × Nat × X)) (z : List AV), fillP s.T z l (fun cs => K (.agg cs)) → ∃ v, K v ∧ ∀ K' : AV → List AB → Prop, K' v s.σ → fillP s.T z l fun cs => K' (.agg cs) s.σ from hh p z h
    intro l
    induction l with
    | nil => intro z h; exact ⟨_, h, fun K' hk => hk⟩
    | cons c l ih =>
      obtain ⟨o, n, x⟩ := c
      intro z h
      simp only [fillP] at h ⊢
      obtain ⟨v, h1, h2⟩ := ih _ h.2
      exact ⟨v, h1, fun K' hk => ⟨h.1, h2 K' hk⟩⟩
  case slc sz x lo hi mx =>
    have B : ∀ (o : Option AV) (d : Nat) (R : Nat → Prop) (S : (AV → List AB → Prop) → Nat → Prop), (∀ n, R n → ∃ v, K v ∧ ∀ K' : AV → List AB → Prop, K' v s.σ → S K' n) → bnd o d R → ∃ v, K v ∧ ∀ K' : AV → List AB → Prop, K' v s.σ → bnd o d (S K') := by
      intro o d R S hh hb
      unfold bnd at hb ⊢
      split at hb
      · obtain ⟨v, h1, h2⟩ := hh _ hb; exact ⟨v, h1, h2⟩
      · obtain ⟨v, h1, h2⟩ := hh _ hb.2; exact ⟨v, h1, fun K' hk => ⟨hb.1, h2 K' hk⟩⟩
      · exact hb.elim
    simp only [wpO] at h ⊢
    split at h
    · cases lo with
      | none =>
        refine B _ _ _ (fun K' m => bnd _ _ fun h => (_ ∧ K' _ s.σ)) (fun m hm => B _ _ _ (fun K' h => (_ ∧ K' _ s.σ)) (fun h hh => ⟨_, hh.2, fun K' hk => ⟨hh.1, hk⟩⟩) hm) h
      | some lo =>
        refine B _ _ _ (fun K' m => bnd _ _ fun h => bnd _ _ fun l => _ ∧ (_ → K' _ s.σ) ∧ (_ → K' _ s.σ)) (fun m hm => B _ _ _ (fun K' h => bnd _ _ fun l => _ ∧ (_ → K' _ s.σ) ∧ (_ → K' _ s.σ)) (fun h hh => B _ _ _ (fun K' l => _ ∧ (_ → K' _ s.σ) ∧ (_ → K' _ s.σ)) (fun l hl => ?_) hh) hm) h
        by_cases e : m = l
        · exact ⟨_, hl.2.2 e, fun K' hk => ⟨hl.1, fun h => absurd e h, fun _ => hk⟩⟩
        · exact ⟨_, hl.2.1 e, fun K' hk => ⟨hl.1, fun _ => hk, fun h => absurd h e⟩⟩
    · refine B _ _ _ (fun K' m => bnd _ _ fun h => bnd _ _ fun l => _ ∧ K' _ s.σ) (fun m hm => B _ _ _ (fun K' h => bnd _ _ fun l => _ ∧ K' _ s.σ) (fun h hh => B _ _ _ (fun K' l => _ ∧ K' _ s.σ) (fun l hl => ⟨_, hl.2, fun K' hk => ⟨hl.1, hk⟩⟩) hh) hm) h
    · exact h.elim
  case sslc x lo hi =>
    have B : ∀ (o : Option AV) (d : Nat) (R : Nat → Prop) (S : (AV → List AB → Prop) → Nat → Prop), (∀ n, R n → ∃ v, K v ∧ ∀ K' : AV → List AB → Prop, K' v s.σ → S K' n) → bnd o d R → ∃ v, K v ∧ ∀ K' : AV → List AB → Prop, K' v s.σ → bnd o d (S K') := by
      intro o d R S hh hb
      unfold bnd at hb ⊢
      split at hb
      · obtain ⟨v, h1, h2⟩ := hh _ hb; exact ⟨v, h1, h2⟩
      · obtain ⟨v, h1, h2⟩ := hh _ hb.2; exact ⟨v, h1, fun K' hk => ⟨hb.1, h2 K' hk⟩⟩
      · exact hb.elim
    simp only [wpO] at h ⊢
    split at h
    · refine B _ _ _ (fun K' l => bnd _ _ fun h => _ ∧ K' _ s.σ) (fun l hl => B _ _ _ (fun K' h => _ ∧ K' _ s.σ) (fun h hh => ⟨_, hh.2, fun K' hk => ⟨hh.1, hk⟩⟩) hl) h
    · exact h.elim
  case pick c a b =>
    simp only [wpO] at h ⊢
    split at h
    · rename_i t ht
      cases t
      · exact ⟨_, h.2 rfl, fun K' hk => ⟨fun e => (by cases e), fun _ => hk⟩⟩
      · exact ⟨_, h.1 rfl, fun K' hk => ⟨fun _ => hk, fun e => (by cases e)⟩⟩
    · exact h.elim
  case bin op x y =>
    simp only [wpO] at h ⊢
    split at h
    · obtain ⟨h0, h⟩ := h
      cases op <;> simp only [ibin] at h ⊢ <;> first
        | exact h.elim
        | exact ⟨_, h.2.2, fun K' hk => ⟨h0, h.1, h.2.1, hk⟩⟩
        | exact ⟨_, h.2, fun K' hk => ⟨h0, h.1, hk⟩⟩
        | exact ⟨_, h, fun K' hk => ⟨h0, hk⟩⟩
    · exact h.elim
  all_goals
    simp only [wpO] at h ⊢
    first
      | exact ⟨_, h, fun K' hk => hk⟩
      | (split at h <;> first | exact h.elim | exact ⟨_, h.2, fun K' hk => ⟨h.1, hk⟩⟩ | exact ⟨_, h, fun K' hk => hk⟩)
      | (split at h <;> first | exact h.elim | (split at h <;> first | exact h.elim | exact ⟨_, h.2, fun K' hk => ⟨h.1, hk⟩⟩ | exact ⟨_, h, fun K' hk => hk⟩))
theorem wpP_det {P : Program} {s : St} {K : AV → Prop} {o : LO} (h : wpP P o s K) : ∃ v, K v ∧ wpP P o s (fun y => y = v) ∧ wpO P o s fun y σ => y = v ∧ σ = s.σ := by
  cases o
  case call f l =>
    simp only [wpP] at h ⊢
    split at h
    · rename_i g a c e
      obtain ⟨hd, v, hc, hk⟩ := h
      refine ⟨v, hk, ⟨hd, v, hc, rfl⟩, ?_⟩
      simp only [wpO, e]
      exact ⟨hd, hc⟩
    · exact h.elim
  all_goals
    simp only [wpP] at h ⊢
    obtain ⟨v, h1, h2⟩ := wpO_det h.1 h.2
    exact ⟨v, h1, ⟨h.1, h2 _ rfl⟩, h2 _ ⟨rfl, rfl⟩⟩
/-! ### what each operation of the first part is good for, in the last state -/
def RunAt (P : Program) (σ : List AB) (T : List (Nat × AV)) (c : LI) : Prop :=
  ∃ v, wpP P c.o ⟨T, σ⟩ (fun y => y = v) ∧ ∀ d, c.d = some d → look T d = v
def OkAt (P : Program) (σ : List AB) (T : List (Nat × AV)) (c : LI) : Prop :=
  match c.g with
  | none => RunAt P σ T c
  | some (g, b) => (∃ x, look T g = .b x ∧ (x = b → RunAt P σ T c) ∧ (x = !b → ∀ d, c.d = some d → look T d = .tup [])) ∨ (look T g = .tup [] ∧ ∀ d, c.d = some d → look T d = .tup [])
def reads (c : LI) : List Nat :=
  tms c.o ++ (match c.g with | some (g, _) => [g] | none => [])
def ssa : List LI → Bool
  | [] => true
  | c :: r => (reads c).all (fun t => c.d != some t && r.all fun c' => c'.d != some t) && (match c.d with | some d => r.all fun c' => c'.d != some d | none => true) && ssa r
theorem put_look {s : St} {d : Option Nat} {v : AV} {σ : List AB} {t : Nat} (h : d ≠ some t) : look (s.put d v σ).T t = look s.T t := by
  cases d with
  | none => rfl
  | some d => simp only [St.put, look]; rw [if_neg (by simpa using h)]
theorem put_look_self {s : St} {d : Nat} {v : AV} {σ : List AB} : look (s.put (some d) v σ).T d = v := by simp [St.put, look]
theorem ref_look {s : St} {g : Nat} {b : Bool} (h : look s.T g = .b b) (t : Nat) : look (s.ref g b).T t = look s.T t := by
  simp only [St.ref, look]
  by_cases e : g = t
  · subst e; rw [if_pos rfl, h]
  · rw [if_neg e]
theorem put_σ {s : St} {d : Option Nat} {v : AV} {σ : List AB} (h : d = none → σ = s.σ) : (s.put d v σ).σ = σ := by
  cases d with
  | none => simp [St.put]
  | some d => rfl
theorem wpQ_get {P : Program} {K : List LI → St → Prop} : ∀ {h : Nat} {l : List LI} {s : St}, wpQ P h l s K → ssa (l.take h) = true →
    h ≤ l.length ∧ ∃ T, K (l.drop h) ⟨T, s.σ⟩ ∧ (∀ t, (∀ c ∈ l.take h, c.d ≠ some t) → look T t = look s.T t) ∧ ∀ c ∈ l.take h, OkAt P s.σ T c
  | 0, l, s, hw, _ => ⟨Nat.zero_le _, s.T, hw, fun _ _ => rfl, by simp⟩
  | h + 1, [], s, hw, _ => hw.elim
  | h + 1, c :: r, s, hw, hs => by
    simp only [List.take_succ_cons, ssa, Bool.and_eq_true, List.all_eq_true, bne_iff_ne, ne_eq] at hs
    obtain ⟨⟨hr, hd⟩, hs⟩ := hs
    -- the state behind c, and what it holds of c
    have main : ∀ (s0 : St) (v : AV), (∀ t, look s0.T t = look s.T t) → s0.σ = s.σ → wpQ P h r (s0.put c.d v s.σ) K →
        (∀ T, (∀ t ∈ reads c, look T t = look s.T t) → (∀ d, c.d = some d → look T d = v) → OkAt P s.σ T c) →
        h + 1 ≤ (c :: r).length ∧ ∃ T, K ((c :: r).drop (h + 1)) ⟨T, s.σ⟩ ∧ (∀ t, (∀ c' ∈ (c :: r).take (h + 1), c'.d ≠ some t) → look T t = look s.T t) ∧ ∀ c' ∈ (c :: r).take (h + 1), OkAt P s.σ T c' := by
      intro s0 v h0 h0σ hq hok
      have hσ : (s0.put c.d v s.σ).σ = s.σ := put_σ fun _ => h0σ.symm
      obtain ⟨hl, T, hk, ht, ho⟩ := wpQ_get hq hs
      rw [hσ] at hk ho
      refine ⟨by simp; omega, T, hk, ?_, ?_⟩
      · intro t hnt
        rw [ht t fun c' hc' => hnt c' (by simp [hc']), put_look (hnt c (by simp)), h0]
      · intro c' hc'
        simp only [List.take_succ_cons, List.mem_cons] at hc'
        rcases hc' with rfl | hc'
        · refine hok T ?_ ?_
          · intro t htr
            obtain ⟨h1, h2⟩ := hr t htr
            rw [ht t fun c' hc' => h2 c' hc', put_look h1, h0]
          · intro d hcd
            rw [hcd] at hd ht
            simp only [List.all_eq_true, bne_iff_ne, ne_eq] at hd
            rw [ht d fun c' hc' => hd c' hc', put_look_self]
        · exact ho c' hc'
    have runs : ∀ (s0 : St) (v : AV), (∀ t, look s0.T t = look s.T t) → s0.σ = s.σ → wpP P c.o s0 (fun y => y = v) → ∀ T, (∀ t ∈ reads c, look T t = look s.T t) → (∀ d, c.d = some d → look T d = v) → RunAt P s.σ T c := by
      intro s0 v h0 h0σ hp T hT hv
      refine ⟨v, ?_, hv⟩
      obtain ⟨T0, σ0⟩ := s0
      simp only at h0σ h0
      subst h0σ
      rw [wpP_congr (T' := T0) fun t ht => by rw [hT t (by simp [reads, ht]), h0]]
      exact hp
    simp only [wpQ] at hw
    cases hcg : c.g with
    | none =>
      rw [hcg] at hw
      obtain ⟨v, hk, hp, _⟩ := wpP_det hw
      refine main s v (fun _ => rfl) rfl hk fun T hT hv => ?_
      unfold OkAt
      rw [hcg]
      exact runs s v (fun _ => rfl) rfl hp T hT hv
    | some p =>
      obtain ⟨g, b⟩ := p
      rw [hcg] at hw
      simp only at hw
      split at hw
      · rename_i x hx
        by_cases e : x = b
        · subst e
          obtain ⟨v, hk, hp, _⟩ := wpP_det (hw.1 (by simp))
          refine main (s.ref g x) v (ref_look hx) rfl hk fun T hT hv => ?_
          unfold OkAt
          rw [hcg]
          exact .inl ⟨x, by rw [hT g (by simp [reads, hcg]), hx], fun _ => runs (s.ref g x) v (ref_look hx) rfl hp T hT hv, fun e' => by cases x <;> cases e'⟩
        · have e' : x = !b := by cases x <;> cases b <;> simp_all
          subst e'
          refine main (s.ref g !b) (.tup []) (ref_look hx) rfl (hw.2 (by simp)) fun T hT hv => ?_
          unfold OkAt
          rw [hcg]
          exact .inl ⟨!b, by rw [hT g (by simp [reads, hcg]), hx], fun e' => absurd e' e, fun _ => hv⟩
      · rename_i hx
        refine main s (.tup []) (fun _ => rfl) rfl hw fun T hT hv => ?_
        unfold OkAt
        rw [hcg]
        exact .inr ⟨by rw [hT g (by simp [reads, hcg]), hx], hv⟩
      · exact hw.elim
end Go.Abs
