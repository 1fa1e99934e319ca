import Derived.Test.YtfngcejaphhmmaaGreatDoorAbsH
namespace Go.Abs
set_option linter.unusedVariables false
set_option linter.unusedSimpArgs false
def tmsA : LO → List Nat
  | .st _ a x => xt a ++ xt x
  | .box _ x => xt x
  | .bsl _ _ _ p => xtp p
  | .msl _ _ _ x => xt x
  | .snil x => xt x
  | .app _ _ _ x y | .appf _ _ _ x y | .lk _ _ x y => xt x ++ xt y
  | .mup _ _ x y z => xt x ++ xt y ++ xt z
  | .shr x y | .copy x y => xt x ++ xt y
  | .api _ x y => xt x ++ xt y
  | .clr x => xt x
  | o => tms o
def readsA (c : LI) : List Nat :=
  tmsA c.o ++ (match c.g with | some (g, _) => [g] | none => [])
theorem tmsA_pure {o : LO} (h : pureO o = true) : tmsA o = tms o := by
  cases o <;> first | rfl | cases h
theorem wpO_congrA {P : Program} {T T' : List (Nat × AV)} {σ : List AB} {K : AV → List AB → Prop} {o : LO} (h : ∀ t ∈ tmsA o, look T t = look T' t) : wpO P o ⟨T, σ⟩ K = wpO P o ⟨T', σ⟩ K := by
  by_cases hp : pureO o = true
  · exact wpO_congr hp fun t ht => h t (by rw [tmsA_pure hp]; exact ht)
  · cases o <;> first | exact absurd rfl hp | skip
    case st n a x =>
      have h1 := ev_congr (T := T) (T' := T') (x := a) fun t ht => h t (by simp [tmsA, ht])
      have h2 := ev_congr (T := T) (T' := T') (x := x) fun t ht => h t (by simp [tmsA, ht])
      simp only [wpO, h1, h2]
    case box ty x =>
      have h1 := ev_congr (T := T) (T' := T') (x := x) fun t ht => h t (by simp [tmsA, ht])
      simp only [wpO, h1]
    case snil x =>
      have h1 := ev_congr (T := T) (T' := T') (x := x) fun t ht => h t (by simp [tmsA, ht])
      simp only [wpO, h1]
    case alloc ty z => rfl
    case bsl ty z n p => simp only [wpO]; exact fillP_congr h
    case msl ty b z x =>
      have h1 := ev_congr (T := T) (T' := T') (x := x) fun t ht => h t (by simp [tmsA, ht])
      simp only [wpO, h1]
    case app ty sz b x y =>
      have h1 := ev_congr (T := T) (T' := T') (x := x) fun t ht => h t (by simp [tmsA, ht])
      have h2 := ev_congr (T := T) (T' := T') (x := y) fun t ht => h t (by simp [tmsA, ht])
      simp only [wpO, h1, h2]
    case appf ty sz b x y =>
      have h1 := ev_congr (T := T) (T' := T') (x := x) fun t ht => h t (by simp [tmsA, ht])
      have h2 := ev_congr (T := T) (T' := T') (x := y) fun t ht => h t (by simp [tmsA, ht])
      simp only [wpO, h1, h2]
    case mkm k e => rfl
    case die => rfl
    case shr x y =>
      have h1 := ev_congr (T := T) (T' := T') (x := x) fun t ht => h t (by simp [tmsA, ht])
      have h2 := ev_congr (T := T) (T' := T') (x := y) fun t ht => h t (by simp [tmsA, ht])
      simp only [wpO, h1, h2]
    case api ty x y =>
      have h1 := ev_congr (T := T) (T' := T') (x := x) fun t ht => h t (by simp [tmsA, ht])
      have h2 := ev_congr (T := T) (T' := T') (x := y) fun t ht => h t (by simp [tmsA, ht])
      simp only [wpO, h1, h2]
    case clr x =>
      have h1 := ev_congr (T := T) (T' := T') (x := x) fun t ht => h t (by simp [tmsA, ht])
      simp only [wpO, h1]
    case copy x y =>
      have h1 := ev_congr (T := T) (T' := T') (x := x) fun t ht => h t (by simp [tmsA, ht])
      have h2 := ev_congr (T := T) (T' := T') (x := y) fun t ht => h t (by simp [tmsA, ht])
      simp only [wpO, h1, h2]
    case lk k e x y =>
      have h1 := ev_congr (T := T) (T' := T') (x := x) fun t ht => h t (by simp [tmsA, ht])
      have h2 := ev_congr (T := T) (T' := T') (x := y) fun t ht => h t (by simp [tmsA, ht])
      simp only [wpO, h1, h2]
    case mup k e x y z =>
      have h1 := ev_congr (T := T) (T' := T') (x := x) fun t ht => h t (by simp [tmsA, ht])
      have h2 := ev_congr (T := T) (T' := T') (x := y) fun t ht => h t (by simp [tmsA, ht])
      have h3 := ev_congr (T := T) (T' := T') (x := z) fun t ht => h t (by simp [tmsA, ht])
      simp only [wpO, h1, h2, h3]
    case call f l =>
      have h1 := ev_congr (T := T) (T' := T') (x := f) fun t ht => h t (by simp [tmsA, tms, ht])
      have h2 := evs_congr (T := T) (T' := T') (l := l) fun t ht => h t (by simp [tmsA, tms, ht])
      simp only [wpO, h1, h2]
def noHeap : LO → Bool
  | .ld _ | .ldn .. | .cvb _ => false
  | o => pureO o
theorem wpP_noHeap {P : Program} {o : LO} (h : noHeap o = true) {T : List (Nat × AV)} {σ σ' : List AB} {K : AV → Prop} (hw : wpP P o ⟨T, σ⟩ K) : wpP P o ⟨T, σ'⟩ K := by
  cases o <;> first | exact hw | (cases h; done)
/-! ### the checker of plans -/
def depsO (o : Oper) : List Nat := (o.after.toList.filter (Region.binds .any)).map (·.on)
abbrev Gh := List (Nat × LI)
def inG (G : Gh) (i : Nat) : Bool := G.any fun e => e.1 == i
theorem inG_iff {G : Gh} {i : Nat} : inG G i = true ↔ ∃ e ∈ G, e.1 = i := by simp [inG]
def okAdd (P : Program) (nt : Nat) (ops : Array Oper) (G : Gh) (i : Nat) (c : LI) (free : Bool) : Bool :=
  match ops[i]? with
  | none => false
  | some o => chkI P nt ops o c && !(inG G i) && (readsA c).all (fun t => c.d != some t) &&
    G.all (fun e => e.2.d == none || (e.2.d != c.d && (readsA c).all fun t => e.2.d != some t || (depsO o).contains e.1)) &&
    (if free then pureO c.o && G.all (fun e => (readsA e.2).all fun t => c.d != some t)
     else G.all (fun e => ((readsA e.2).all fun t => c.d != some t) || (depsO o).contains e.1))
def pendOk (ops : Array Oper) (R : List Nat) (G : Gh) (i : Nat) (pend : List (Nat × Option Nat × Nat)) : Bool :=
  match ops[i]? with
  | none => false
  | some o => G.all fun e => R.contains e.1 || !(pureO e.2.o) || noHeap e.2.o || (depsO o).contains e.1 || (match e.2.g, e.2.d, e.2.o with
    | none, some d, .ld (.t t) => pend.contains (d, none, t)
    | none, some d, .ldn k (.t t) => pend.contains (d, some k, t)
    | _, _, _ => false)
def chkSeg (P : Program) (nt : Nat) (ops : Array Oper) : Gh → List Nat → List LI → Option Gh
  | G, [], [] => some G
  | G, i :: ix, c :: cs => if okAdd P nt ops G i c true then chkSeg P nt ops ((i, c) :: G) ix cs else none
  | _, _, _ => none
def heads : Plan → List Nat
  | .fin => []
  | .one i _ _ _ _ _ => [i]
  | .alt p q => heads p ++ heads q
def cover (ops : Array Oper) (G : Gh) (p : Plan) : Bool :=
  (List.range ops.size).all fun k => inG G k || (heads p).contains k || (match ops[k]? with | some o => (depsO o).any fun j => !(inG G j) | none => true)
def chkPlan (P : Program) (nt : Nat) (ops : Array Oper) : List Nat → Gh → Plan → Bool
  | _, _, .fin => true
  | R, G, .one i c pend ix cs p => okAdd P nt ops G i c false && pendOk ops R G i pend && (match chkSeg P nt ops ((i, c) :: G) ix cs with
    | some G' => cover ops G' p && chkPlan P nt ops (i :: R) G' p
    | none => false)
  | R, G, .alt p q => chkPlan P nt ops R G p && chkPlan P nt ops R G q
def chkRg (P : Program) (nt : Nat) (ops : Array Oper) (ix : List Nat) (cs : List LI) (p : Plan) : Bool :=
  (ops.toList.zipIdx.all fun x => x.1.after.all fun e => !(Region.binds .any e) || decide (e.on < x.2)) && (match chkSeg P nt ops [] ix cs with
  | some G => cover ops G p && chkPlan P nt ops [] G p
  | none => false)
/-! ### what each open operation is good for -/
theorem OkAt_congr {P : Program} {σ : List AB} {T T' : List (Nat × AV)} {c : LI} (h1 : ∀ t ∈ reads c, look T t = look T' t) (h2 : ∀ d, c.d = some d → look T d = look T' d) (h : OkAt P σ T c) : OkAt P σ T' c := by
  have run : RunAt P σ T c → RunAt P σ T' c := by
    rintro ⟨v, hp, hv⟩
    refine ⟨v, ?_, fun d hd => by rw [← h2 d hd]; exact hv d hd⟩
    rw [← wpP_congr (T := T) fun t ht => h1 t (by simp [reads, ht])]
    exact hp
  unfold OkAt at h ⊢
  cases hcg : c.g with
  | none => rw [hcg] at h; exact run h
  | some p =>
    obtain ⟨g, b⟩ := p
    rw [hcg] at h
    rcases h with ⟨x, hx, ha, hb⟩ | ⟨hx, hb⟩
    · exact .inl ⟨x, by rw [← h1 g (by simp [reads, hcg])]; exact hx, fun e => run (ha e), fun e d hd => by rw [← h2 d hd]; exact hb e d hd⟩
    · exact .inr ⟨by rw [← h1 g (by simp [reads, hcg])]; exact hx, fun d hd => by rw [← h2 d hd]; exact hb d hd⟩
theorem OkAt_noHeap {P : Program} {σ σ' : List AB} {T : List (Nat × AV)} {c : LI} (hn : noHeap c.o = true) (h : OkAt P σ T c) : OkAt P σ' T c := by
  have run : RunAt P σ T c → RunAt P σ' T c := fun ⟨v, hp, hv⟩ => ⟨v, wpP_noHeap hn hp, hv⟩
  unfold OkAt at h ⊢
  cases hcg : c.g with
  | none => rw [hcg] at h; exact run h
  | some p =>
    obtain ⟨g, b⟩ := p
    rw [hcg] at h
    rcases h with ⟨x, hx, ha, hb⟩ | h
    · exact .inl ⟨x, hx, fun e => run (ha e), hb⟩
    · exact .inr h
theorem stabs_at {P : Program} {T : List (Nat × AV)} {σ : List AB} : ∀ {l : List (Nat × Option Nat × Nat)}, stabs P T σ l → ∀ {d t : Nat} {k : Option Nat}, (d, k, t) ∈ l →
    match k with | none => wpO P (.ld (.t t)) ⟨T, σ⟩ (fun v _ => v = look T d) | some k => wpO P (.ldn k (.t t)) ⟨T, σ⟩ (fun v _ => v = look T d)
  | [], _, d, t, k, hm => by simp at hm
  | (d0, none, t0) :: r, h, d, t, k, hm => by
    rcases List.mem_cons.1 hm with e | hm
    · cases e; exact h.1
    · exact stabs_at h.2 hm
  | (d0, some k0, t0) :: r, h, d, t, k, hm => by
    rcases List.mem_cons.1 hm with e | hm
    · cases e; exact h.1
    · exact stabs_at h.2 hm
structure PInv (P : Program) (nt : Nat) (ops : Array Oper) (listed : Array Bool) (G : Gh) (Tg Ta : List (Nat × AV)) (σ : List AB) : Prop where
  sz : listed.size = ops.size
  sub : ∀ i, i < ops.size → listed.getD i true = true → inG G i = true
  uniq : ∀ e ∈ G, ∀ e' ∈ G, e.1 = e'.1 → e = e'
  chk : ∀ e ∈ G, ∃ o, ops[e.1]? = some o ∧ chkI P nt ops o e.2 = true
  run : ∀ e ∈ G, listed.getD e.1 true = false → pureO e.2.o = true ∧ OkAt P σ Tg e.2
  rd : ∀ e ∈ G, listed.getD e.1 true = false → ∀ t ∈ readsA e.2, ∀ e' ∈ G, e'.2.d = some t → ∃ o, ops[e.1]? = some o ∧ e'.1 ∈ depsO o
  lk : ∀ t, (∀ e ∈ G, e.2.d = some t → listed.getD e.1 true = true) → look Ta t = look Tg t
structure Added (P : Program) (nt : Nat) (ops : Array Oper) (G : Gh) (i : Nat) (c : LI) (free : Bool) (o : Oper) : Prop where
  at_ : ops[i]? = some o
  chk : chkI P nt ops o c = true
  new : ∀ e ∈ G, e.1 ≠ i
  self : ∀ t ∈ readsA c, c.d ≠ some t
  dst : ∀ e ∈ G, ∀ d, e.2.d = some d → c.d ≠ some d
  dep : ∀ e ∈ G, ∀ t ∈ readsA c, e.2.d = some t → e.1 ∈ depsO o
  keep : ∀ e ∈ G, (∀ t ∈ readsA e.2, c.d ≠ some t) ∨ (free = false ∧ e.1 ∈ depsO o)
  pure : free = true → pureO c.o = true
theorem okAdd_get {P : Program} {nt : Nat} {ops : Array Oper} {G : Gh} {i : Nat} {c : LI} {free : Bool} (h : okAdd P nt ops G i c free = true) : ∃ o, Added P nt ops G i c free o := by
  unfold okAdd at h
  split at h
  · cases h
  · rename_i o ho
    simp only [Bool.and_eq_true, Bool.not_eq_true', List.all_eq_true, bne_iff_ne, ne_eq, Bool.or_eq_true, beq_iff_eq, List.contains_eq_mem, decide_eq_true_eq] at h
    obtain ⟨⟨⟨⟨h1, h2⟩, h3⟩, h4⟩, h5⟩ := h
    refine ⟨o, ho, h1, ?_, h3, ?_, ?_, ?_, ?_⟩
    · intro e he hei
      have : inG G i = true := inG_iff.2 ⟨e, he, hei⟩
      rw [h2] at this; cases this
    · intro e he d hd hcd
      rcases h4 e he with h | h
      · rw [h] at hd; cases hd
      · exact h.1 (by rw [hd, hcd])
    · intro e he t ht hd
      rcases h4 e he with h | h
      · rw [h] at hd; cases hd
      · rcases h.2 t ht with h' | h'
        · exact absurd hd h'
        · exact h'
    · cases free with
      | true =>
        simp only [if_true, Bool.and_eq_true, List.all_eq_true, bne_iff_ne, ne_eq] at h5
        exact fun e he => .inl (h5.2 e he)
      | false =>
        simp only [Bool.false_eq_true, if_false, Bool.or_eq_true, List.all_eq_true, bne_iff_ne, ne_eq, List.contains_eq_mem, decide_eq_true_eq] at h5
        intro e he
        rcases h5 e he with h | h
        · exact .inl h
        · exact .inr ⟨rfl, h⟩
    · intro hf
      subst hf
      simp only [if_true, Bool.and_eq_true] at h5
      exact h5.1
section
variable {P : Program} {nt : Nat} {ops : Array Oper} {listed : Array Bool} {G : Gh} {Tg Ta : List (Nat × AV)} {σ : List AB}
theorem reads_pure {c : LI} (h : pureO c.o = true) : reads c = readsA c := by unfold reads readsA; rw [tmsA_pure h]; try (cases c.g <;> rfl)
theorem PInv.free (H : PInv P nt ops listed G Tg Ta σ) {i : Nat} {c : LI} {o : Oper} (A : Added P nt ops G i c true o) {Tg' : List (Nat × AV)} (hl : ∀ t, c.d ≠ some t → look Tg' t = look Tg t) (hok : OkAt P σ Tg' c) :
    PInv P nt ops listed ((i, c) :: G) Tg' Ta σ := by
  have hi : i < ops.size := (Array.getElem?_eq_some_iff.1 A.at_).1
  have hun : listed.getD i true = false := by
    cases hb : listed.getD i true with
    | false => rfl
    | true =>
      obtain ⟨e, he, hei⟩ := inG_iff.1 (H.sub i hi hb)
      exact absurd hei (A.new e he)
  have keep : ∀ e ∈ G, ∀ t ∈ readsA e.2, c.d ≠ some t := by
    intro e he
    rcases A.keep e he with h | h
    · exact h
    · cases h.1
  refine ⟨H.sz, ?_, ?_, ?_, ?_, ?_, ?_⟩
  · intro j hj hb
    obtain ⟨e, he, hej⟩ := inG_iff.1 (H.sub j hj hb)
    exact inG_iff.2 ⟨e, List.mem_cons_of_mem _ he, hej⟩
  · intro e he e' he' hee
    rcases List.mem_cons.1 he with rfl | he <;> rcases List.mem_cons.1 he' with rfl | he'
    · rfl
    · exact absurd hee.symm (A.new e' he')
    · exact absurd hee (A.new e he)
    · exact H.uniq e he e' he' hee
  · intro e he
    rcases List.mem_cons.1 he with rfl | he
    · exact ⟨o, A.at_, A.chk⟩
    · exact H.chk e he
  · intro e he hb
    rcases List.mem_cons.1 he with rfl | he
    · exact ⟨A.pure rfl, hok⟩
    · obtain ⟨h1, h2⟩ := H.run e he hb
      refine ⟨h1, OkAt_congr (fun t ht => ?_) (fun d hd => ?_) h2⟩
      · rw [reads_pure h1] at ht; exact (hl t (keep e he t ht)).symm
      · exact (hl d (A.dst e he d hd)).symm
  · intro e he hb t ht e' he' hd
    rcases List.mem_cons.1 he with rfl | he <;> rcases List.mem_cons.1 he' with rfl | he'
    · exact absurd hd (A.self t ht)
    · exact ⟨o, A.at_, A.dep e' he' t ht hd⟩
    · exact absurd hd (keep e he t ht)
    · exact H.rd e he hb t ht e' he' hd
  · intro t ht
    have hct : c.d ≠ some t := by
      intro h
      have := ht (i, c) (by simp) h
      simp only at this
      rw [hun] at this; cases this
    rw [hl t hct]
    exact H.lk t fun e he hd => ht e (List.mem_cons_of_mem _ he) hd
theorem listd (i j : Nat) (h : j ≠ i) : (listed.setIfInBounds i true).getD j true = listed.getD j true := by
  rw [Array.getD_eq_getD_getElem?, Array.getD_eq_getD_getElem?, Array.getElem?_setIfInBounds, if_neg (fun e => h e.symm)]
theorem listi (i : Nat) : (listed.setIfInBounds i true).getD i true = true := by
  rw [Array.getD_eq_getD_getElem?, Array.getElem?_setIfInBounds, if_pos rfl]
  split <;> simp
theorem PInv.ran (H : PInv P nt ops listed G Tg Ta σ) {e : Nat × LI} (he : e ∈ G) {Ta' : List (Nat × AV)} (hl : ∀ t, look Ta' t = if e.2.d = some t then look Tg t else look Ta t) : PInv P nt ops (listed.setIfInBounds e.1 true) G Tg Ta' σ := by
  have un : ∀ j, (listed.setIfInBounds e.1 true).getD j true = false → listed.getD j true = false := by
    intro j hb
    by_cases h : j = e.1
    · subst h; rw [listi] at hb; cases hb
    · rwa [listd _ _ h] at hb
  refine ⟨by simpa using H.sz, ?_, H.uniq, H.chk, fun e' he' hb => H.run e' he' (un _ hb), fun e' he' hb => H.rd e' he' (un _ hb), ?_⟩
  · intro j hj hb
    by_cases h : j = e.1
    · exact inG_iff.2 ⟨e, he, h.symm⟩
    · rw [listd _ _ h] at hb; exact H.sub j hj hb
  · intro t ht
    rw [hl t]
    by_cases h : e.2.d = some t
    · rw [if_pos h]
    · rw [if_neg h]
      refine H.lk t fun e' he' hd => ?_
      have h1 := ht e' he' hd
      by_cases h2 : e'.1 = e.1
      · have := H.uniq e' he' e he h2
        subst this
        exact absurd hd h
      · rwa [listd _ _ h2] at h1
theorem PInv.hop (H : PInv P nt ops listed G Tg Ta σ) {i : Nat} {c : LI} {o : Oper} (A : Added P nt ops G i c false o) (hdep : ∀ j ∈ depsO o, listed.getD j true = true) {R : List Nat} (hR : ∀ j ∈ R, listed.getD j true = true) {pend : List (Nat × Option Nat × Nat)} (hp : pendOk ops R G i pend = true)
    {Tg' Ta' : List (Nat × AV)} {σ' : List AB} {v : AV} (hg : ∀ t, look Tg' t = if c.d = some t then v else look Tg t) (ha : ∀ t, look Ta' t = if c.d = some t then v else look Ta t) (hst : stabs P Tg' σ' pend) :
    PInv P nt ops (listed.setIfInBounds i true) ((i, c) :: G) Tg' Ta' σ' := by
  have hi : i < ops.size := (Array.getElem?_eq_some_iff.1 A.at_).1
  have un : ∀ j, (listed.setIfInBounds i true).getD j true = false → j ≠ i ∧ listed.getD j true = false := by
    intro j hb
    by_cases h : j = i
    · subst h; rw [listi] at hb; cases hb
    · exact ⟨h, by rwa [listd _ _ h] at hb⟩
  have nodep : ∀ e : Nat × LI, listed.getD e.1 true = false → e.1 ∉ depsO o := by
    intro e hb hd
    rw [hdep _ hd] at hb; cases hb
  have keep : ∀ e ∈ G, listed.getD e.1 true = false → ∀ t ∈ readsA e.2, c.d ≠ some t := by
    intro e he hb
    rcases A.keep e he with h | h
    · exact h
    · exact absurd h.2 (nodep e hb)
  refine ⟨by simpa using H.sz, ?_, ?_, ?_, ?_, ?_, ?_⟩
  · intro j hj hb
    by_cases h : j = i
    · exact inG_iff.2 ⟨(i, c), by simp, h.symm⟩
    · rw [listd _ _ h] at hb
      obtain ⟨e, he, hej⟩ := inG_iff.1 (H.sub j hj hb)
      exact inG_iff.2 ⟨e, List.mem_cons_of_mem _ he, hej⟩
  · intro e he e' he' hee
    rcases List.mem_cons.1 he with rfl | he <;> rcases List.mem_cons.1 he' with rfl | he'
    · rfl
    · exact absurd hee.symm (A.new e' he')
    · exact absurd hee (A.new e he)
    · exact H.uniq e he e' he' hee
  · intro e he
    rcases List.mem_cons.1 he with rfl | he
    · exact ⟨o, A.at_, A.chk⟩
    · exact H.chk e he
  · intro e he hb
    rcases List.mem_cons.1 he with rfl | he
    · exact absurd rfl (un _ hb).1
    · have hb' := (un _ hb).2
      obtain ⟨h1, h2⟩ := H.run e he hb'
      refine ⟨h1, ?_⟩
      have hr : ∀ t ∈ reads e.2, look Tg t = look Tg' t := by
        intro t ht
        rw [reads_pure h1] at ht
        rw [hg t, if_neg (keep e he hb' t ht)]
      have hd : ∀ d, e.2.d = some d → look Tg d = look Tg' d := by
        intro d hd
        rw [hg d, if_neg (A.dst e he d hd)]
      have h3 := OkAt_congr hr hd h2
      unfold pendOk at hp
      rw [A.at_] at hp
      simp only [List.all_eq_true, Bool.or_eq_true, Bool.not_eq_true', List.contains_eq_mem, decide_eq_true_eq] at hp
      rcases hp e he with (((h4 | h4) | h4) | h4) | h4
      · have := hR _ h4; rw [hb'] at this; cases this
      · rw [h1] at h4; cases h4
      · exact OkAt_noHeap h4 h3
      · exact absurd h4 (nodep e hb')
      · unfold OkAt
        obtain ⟨j, dd, g, oo⟩ := e
        simp only at h4 ⊢
        split at h4
        · simp only [decide_eq_true_eq] at h4
          have h5 := stabs_at hst h4
          exact ⟨_, ⟨rfl, h5⟩, fun d hd => by cases hd; rfl⟩
        · simp only [decide_eq_true_eq] at h4
          have h5 := stabs_at hst h4
          exact ⟨_, ⟨rfl, h5⟩, fun d hd => by cases hd; rfl⟩
        · cases h4
  · intro e he hb t ht e' he' hd
    rcases List.mem_cons.1 he with rfl | he
    · exact absurd rfl (un _ hb).1
    · have hb' := (un _ hb).2
      rcases List.mem_cons.1 he' with rfl | he'
      · exact absurd hd (keep e he hb' t ht)
      · exact H.rd e he hb' t ht e' he' hd
  · intro t ht
    rw [hg t, ha t]
    by_cases h : c.d = some t
    · rw [if_pos h, if_pos h]
    · rw [if_neg h, if_neg h]
      refine H.lk t fun e he hd => ?_
      have := ht e (List.mem_cons_of_mem _ he) hd
      rwa [listd _ _ (A.new e he)] at this
end
section
variable {P : Program} {nt : Nat} {ops : Array Oper} {F : Fr}
theorem open_step {i : Nat} {o : Oper} (hi : ops[i]? = some o) {c : LI} (hc : chkI P nt ops o c = true) {Tg Ta : List (Nat × AV)} {σ : List AB} {ρ : Pl} {a : Act} {w : World} (hs : SimS F ρ nt ⟨Ta, σ⟩ a w) (hok : OkAt P σ Tg c) (hr : ∀ t ∈ reads c, look Ta t = look Tg t)
    {Q : Exit → Act → World → Prop} {K' : Act → World → Prop} (next : ∀ Ta' ρ' a' w', (∀ n, n < σ.length → ρ' n = ρ n) → SimS F ρ' nt ⟨Ta', σ⟩ a' w' → (∀ t, look Ta' t = if c.d = some t then look Tg t else look Ta t) → K' a' w') : wpOp P ops Q i K' a w := by
  have puts : ∀ (s0 : St) (v : AV), s0.σ = σ → (∀ t, look s0.T t = look Ta t) → (∀ d, c.d = some d → look Tg d = v) → (s0.put c.d v σ).σ = σ ∧ ∀ t, look (s0.put c.d v σ).T t = if c.d = some t then look Tg t else look Ta t := by
    intro s0 v h0 h0T hv
    cases hcd : c.d with
    | none => exact ⟨rfl, fun t => by rw [if_neg (by simp)]; exact h0T t⟩
    | some d =>
      refine ⟨rfl, fun t => ?_⟩
      simp only [St.put, look]
      by_cases e : d = t
      · subst e; rw [if_pos rfl, if_pos rfl, hv d hcd]
      · rw [if_neg e, if_neg (by simpa using e)]; exact h0T t
  have runs : RunAt P σ Tg c → ∀ (s0 : St), s0.σ = σ → (∀ t, look s0.T t = look Ta t) → wpO P c.o s0 fun v σ' => (s0.put c.d v σ').σ = σ ∧ ∀ t, look (s0.put c.d v σ').T t = if c.d = some t then look Tg t else look Ta t := by
    rintro ⟨v, hp, hv⟩ s0 h0 h0T
    obtain ⟨T', σ'⟩ := s0
    simp only at h0 h0T
    subst h0
    rw [wpP_congr (T' := T') fun t ht => by rw [h0T t, hr t (by simp [reads, ht])]] at hp
    obtain ⟨v', hk, _, hq⟩ := wpP_det hp
    refine wpO_mono ?_ hq
    rintro y σ2 ⟨rfl, rfl⟩
    exact puts ⟨T', σ2⟩ y rfl h0T (by rw [hk]; exact hv)
  refine wpOp_ok hi hc hs (K := fun s' => s'.σ = σ ∧ ∀ t, look s'.T t = if c.d = some t then look Tg t else look Ta t) ?_ ?_
  · unfold OkAt at hok
    cases hcg : c.g with
    | none => rw [hcg] at hok; exact runs hok _ rfl fun _ => rfl
    | some p =>
      obtain ⟨g, b⟩ := p
      rw [hcg] at hok
      rcases hok with ⟨x, hx, h1, h2⟩ | ⟨hx, h2⟩
      rotate_left
      · simp only [show look Ta g = .tup [] by rw [hr g (by simp [reads, hcg]), hx]]
        exact puts ⟨Ta, σ⟩ (.tup []) rfl (fun _ => rfl) h2
      have hx' : look Ta g = .b x := by rw [hr g (by simp [reads, hcg]), hx]
      simp only [hx']
      refine ⟨fun e => ?_, fun e => ?_⟩
      · have e' : x = b := by cases x <;> cases b <;> first | rfl | cases e
        subst e'
        exact runs (h1 rfl) _ rfl (ref_look (s := ⟨Ta, σ⟩) hx')
      · have e' : x = !b := by cases x <;> cases b <;> first | rfl | cases e
        subst e'
        exact puts _ (.tup []) rfl (ref_look (s := ⟨Ta, σ⟩) hx') (h2 rfl)
  · rintro ⟨Ta', σ'⟩ ρ' a' w' ⟨rfl, hl⟩ he hN hs'
    exact next Ta' ρ' a' w' he hs' hl
theorem seg_add {listed : Array Bool} {Ta : List (Nat × AV)} {σ : List AB} {K : St → Prop} : ∀ {cs : List LI} {ix : List Nat} {G G' : Gh} {s : St}, s.σ = σ → PInv P nt ops listed G s.T Ta σ → chkSeg P nt ops G ix cs = some G' → wpF P cs s K →
    ∃ T', PInv P nt ops listed G' T' Ta σ ∧ K ⟨T', σ⟩
  | [], [], G, G', s, h0, H, hc, hw => by
    cases hc
    obtain ⟨T, σ'⟩ := s
    simp only at h0
    subst h0
    exact ⟨T, H, hw⟩
  | [], _ :: _, _, _, _, _, _, hc, _ => by cases hc
  | _ :: _, [], _, _, _, _, _, hc, _ => by cases hc
  | c :: cs, i :: ix, G, G', s, h0, H, hc, hw => by
    simp only [chkSeg] at hc
    split at hc
    · rename_i hadd
      obtain ⟨o, A⟩ := okAdd_get hadd
      have main : ∀ (s0 : St) (v : AV), s0.σ = σ → (∀ t, look s0.T t = look s.T t) → OkAt P σ (s0.put c.d v s0.σ).T c → wpF P cs (s0.put c.d v s0.σ) K → ∃ T', PInv P nt ops listed G' T' Ta σ ∧ K ⟨T', σ⟩ := by
        intro s0 v hσ hT hok hq
        refine seg_add (s := s0.put c.d v s0.σ) (by cases c.d <;> exact hσ) (H.free A (fun t ht => ?_) hok) hc hq
        rw [put_look ht, hT]
      have hσs : ∀ s0 : St, (s0.put c.d AV.j s0.σ).σ = s0.σ := fun s0 => by cases c.d <;> rfl
      have hr : ∀ t ∈ reads c, c.d ≠ some t := fun t ht => A.self t (by rw [← reads_pure (A.pure rfl)]; exact ht)
      have runs : ∀ (s0 : St) (v : AV), s0.σ = σ → (∀ t, look s0.T t = look s.T t) → wpP P c.o s0 (fun y => y = v) → RunAt P σ (s0.put c.d v s0.σ).T c := by
        intro s0 v hσ hT hp
        refine ⟨v, ?_, fun d hd => by rw [hd, put_look_self]⟩
        obtain ⟨T0, σ0⟩ := s0
        simp only at hσ
        subst hσ
        rw [wpP_congr (T' := T0) fun t ht => put_look (hr t (by simp [reads, ht]))]
        exact hp
      unfold wpF at hw
      simp only [List.length_cons, wpQ] at hw
      cases hcg : c.g with
      | none =>
        rw [hcg] at hw
        obtain ⟨v, hk, hp, _⟩ := wpP_det hw
        refine main s v h0 (fun _ => rfl) ?_ hk
        unfold OkAt
        rw [hcg]
        exact runs s v h0 (fun _ => rfl) hp
      | some p =>
        obtain ⟨g, b⟩ := p
        rw [hcg] at hw
        simp only at hw
        split at hw
        · rename_i x hx
          by_cases e : x = b
          · subst e
            obtain ⟨v, hk, hp, _⟩ := wpP_det (hw.1 (by simp))
            refine main (s.ref g x) v h0 (ref_look hx) ?_ hk
            unfold OkAt
            rw [hcg]
            refine .inl ⟨x, ?_, fun _ => runs (s.ref g x) v h0 (ref_look hx) hp, fun e' => by cases x <;> cases e'⟩
            rw [put_look (hr g (by simp [reads, hcg])), ref_look hx, hx]
          · have e' : x = !b := by cases x <;> cases b <;> simp_all
            subst e'
            refine main (s.ref g !b) (.tup []) h0 (ref_look hx) ?_ (hw.2 (by simp))
            unfold OkAt
            rw [hcg]
            refine .inl ⟨!b, ?_, fun e' => absurd e' e, fun _ d hd => by rw [hd, put_look_self]⟩
            rw [put_look (hr g (by simp [reads, hcg])), ref_look hx, hx]
        · rename_i hx
          refine main s (.tup []) h0 (fun _ => rfl) ?_ hw
          unfold OkAt
          rw [hcg]
          refine .inr ⟨?_, fun d hd => by rw [hd, put_look_self]⟩
          rw [put_look (hr g (by simp [reads, hcg])), hx]
        · exact hw.elim
    · cases hc
theorem plan_done {R : List Nat} {G : Gh} (hall : ∀ i, i < ops.size → inG G i = true) {K : St → Prop} {s : St} : ∀ {p : Plan}, chkPlan P nt ops R G p = true → wpPlan P p s K → K s
  | .fin, _, hw => hw
  | .one i c pend ix cs p, hc, _ => by
    simp only [chkPlan, Bool.and_eq_true] at hc
    obtain ⟨o, A⟩ := okAdd_get hc.1.1
    obtain ⟨e, he, hei⟩ := inG_iff.1 (hall i (Array.getElem?_eq_some_iff.1 A.at_).1)
    exact absurd hei (A.new e he)
  | .alt p q, hc, hw => by
    simp only [chkPlan, Bool.and_eq_true] at hc
    exact plan_done hall hc.1 hw.1
theorem plan_head {R : List Nat} {G : Gh} {K : St → Prop} {s : St} {i : Nat} : ∀ {p : Plan}, chkPlan P nt ops R G p = true → wpPlan P p s K → i ∈ heads p → ∃ c pend ix cs p', chkPlan P nt ops R G (.one i c pend ix cs p') = true ∧ wpPlan P (.one i c pend ix cs p') s K
  | .fin, _, _, h => by simp [heads] at h
  | .one j c pend ix cs p, hc, hw, h => by
    simp only [heads, List.mem_singleton] at h
    subst h
    exact ⟨c, pend, ix, cs, p, hc, hw⟩
  | .alt p q, hc, hw, h => by
    simp only [chkPlan, Bool.and_eq_true] at hc
    simp only [heads, List.mem_append] at h
    rcases h with h | h
    · exact plan_head hc.1 hw.1 h
    · exact plan_head hc.2 hw.2 h
def upd (d : Option Nat) (v : AV) (T : List (Nat × AV)) (t : Nat) : AV := if d = some t then v else look T t
theorem plan_any (hb : ∀ (i : Nat) (o : Oper), ops[i]? = some o → ∀ e ∈ o.after, Region.binds .any e = true → e.on < i) {Q : Exit → Act → World → Prop} {K : St → Prop} {ρ0 : Pl} {N0 : Nat}
    (hn : ∀ s' ρ' a' w', K s' → (∀ n, n < N0 → ρ' n = ρ0 n) → N0 ≤ s'.σ.length → SimS F ρ' nt s' a' w' → Q .normal a' w') :
    ∀ (fuel : Nat) (listed : Array Bool) (R : List Nat) (G : Gh) (p : Plan) (Tg Ta : List (Nat × AV)) (σ : List AB) (ρ : Pl) (a : Act) (w : World), PInv P nt ops listed G Tg Ta σ → (∀ j ∈ R, listed.getD j true = true) → chkPlan P nt ops R G p = true → cover ops G p = true → wpPlan P p ⟨Tg, σ⟩ K →
    (∀ n, n < N0 → ρ n = ρ0 n) → N0 ≤ σ.length → SimS F ρ nt ⟨Ta, σ⟩ a w → listed.toList.count false ≤ fuel → wpAny P .any ops Q fuel listed a w := by
  have done : ∀ (listed : Array Bool) (R : List Nat) (G : Gh) (p : Plan) (Tg Ta : List (Nat × AV)) (σ : List AB) (ρ : Pl) (a : Act) (w : World), PInv P nt ops listed G Tg Ta σ → chkPlan P nt ops R G p = true → wpPlan P p ⟨Tg, σ⟩ K →
      (∀ n, n < N0 → ρ n = ρ0 n) → N0 ≤ σ.length → SimS F ρ nt ⟨Ta, σ⟩ a w → (∀ i, i < ops.size → listed.getD i true = true) → Q .normal a w := by
    intro listed R G p Tg Ta σ ρ a w H hc hw hρ hN hs hall
    have hk := plan_done (fun i hi => H.sub i hi (hall i hi)) hc hw
    refine hn ⟨Tg, σ⟩ ρ a w hk hρ hN (hs.congr fun t => H.lk t fun e he _ => ?_)
    obtain ⟨o, ho, _⟩ := H.chk e he
    exact hall e.1 (Array.getElem?_eq_some_iff.1 ho).1
  intro fuel
  induction fuel with
  | zero =>
    intro listed R G p Tg Ta σ ρ a w H hR hc hcov hw hρ hN hs hcnt
    have hall : ∀ i, i < ops.size → listed.getD i true = true := by
      intro i hi
      have hsz := H.sz
      cases hb : listed.getD i true with
      | true => rfl
      | false =>
        rw [Array.getD_eq_getD_getElem?, Array.getElem?_eq_getElem (by omega), Option.getD_some] at hb
        have : 0 < listed.toList.count false := List.count_pos_iff.2 (by rw [← hb]; simp)
        omega
    refine ⟨?_, done listed R G p Tg Ta σ ρ a w H hc hw hρ hN hs hall⟩
    rw [List.eq_nil_iff_forall_not_mem]
    intro i hi
    obtain ⟨h1, h2, _⟩ := mem_ready.1 hi
    rw [hall i h1] at h2
    cases h2
  | succ fuel ih =>
    intro listed R G p Tg Ta σ ρ a w H hR hc hcov hw hρ hN hs hcnt
    have hsz := H.sz
    have flip : ∀ j, j < ops.size → listed.getD j false = listed.getD j true := by
      intro j hj
      rw [Array.getD_eq_getD_getElem?, Array.getD_eq_getD_getElem?, Array.getElem?_eq_getElem (by omega)]
      rfl
    refine ⟨fun h0 => ?_, fun i hi => ?_⟩
    · refine done listed R G p Tg Ta σ ρ a w H hc hw hρ hN hs fun i => ?_
      induction i using Nat.strongRecOn with
      | _ i ih2 =>
        intro hi
        cases hbi : listed.getD i true with
        | true => rfl
        | false =>
          have hrd : i ∈ Region.ready .any ops listed := by
            refine mem_ready.2 ⟨hi, hbi, ops[i], by simp [hi], fun e he hbd => ?_⟩
            have h1 := hb i ops[i] (by simp [hi]) e he hbd
            rw [flip _ (by omega)]
            exact ih2 e.on h1 (by omega)
          rw [h0] at hrd
          exact absurd hrd (by simp)
    · obtain ⟨h1, h2, o, ho, h3⟩ := mem_ready.1 hi
      have hdep : ∀ j ∈ depsO o, listed.getD j true = true := by
        intro j hj
        simp only [depsO, List.mem_map, List.mem_filter, Array.mem_toList_iff] at hj
        obtain ⟨e, ⟨he, hbd⟩, rfl⟩ := hj
        have h4 := hb i o ho e he hbd
        rw [← flip _ (by omega)]
        exact h3 e he hbd
      have hcnt' : (listed.setIfInBounds i true).toList.count false ≤ fuel := by
        rw [Array.getD_eq_getD_getElem?, Array.getElem?_eq_getElem (by omega), Option.getD_some] at h2
        have := count_set (by omega) h2
        omega
      cases hin : inG G i with
      | true =>
        -- an open one
        obtain ⟨e, he, rfl⟩ := inG_iff.1 hin
        obtain ⟨hp, hok⟩ := H.run e he h2
        obtain ⟨o', ho', hci⟩ := H.chk e he
        rw [ho] at ho'
        cases ho'
        refine open_step ho hci hs hok ?_ ?_
        · intro t ht
          refine H.lk t fun e' he' hd => ?_
          obtain ⟨o', ho', hm⟩ := H.rd e he h2 t (by rw [← reads_pure hp]; exact ht) e' he' hd
          rw [ho] at ho'
          cases ho'
          exact hdep _ hm
        · intro Ta' ρ' a' w' he' hs' hl
          exact ih _ R G p Tg Ta' σ ρ' a' w' (H.ran he hl) (fun j hj => by
            by_cases hji : j = e.1
            · rw [hji]; exact listi _
            · rw [listd _ _ hji]; exact hR j hj) hc hcov hw (fun n h => (he' n (by omega)).trans (hρ n h)) hN hs' hcnt'
      | false =>
        -- the next one of the plan
        have hh : i ∈ heads p := by
          simp only [cover, List.all_eq_true, List.mem_range] at hcov
          have := hcov i h1
          rw [hin, ho] at this
          simp only [Bool.false_or, Bool.or_eq_true, List.contains_eq_mem, decide_eq_true_eq, List.any_eq_true, Bool.not_eq_true'] at this
          rcases this with h | ⟨j, hj, hg⟩
          · exact h
          · have hlj := hdep j hj
            have hjs : j < ops.size := by
              simp only [depsO, List.mem_map, List.mem_filter, Array.mem_toList_iff] at hj
              obtain ⟨e, ⟨he, hbd⟩, rfl⟩ := hj
              have := hb i o ho e he hbd
              omega
            rw [H.sub j hjs hlj] at hg
            cases hg
        obtain ⟨c, pend, ix, cs, p', hc', hw'⟩ := plan_head hc hw hh
        simp only [chkPlan, Bool.and_eq_true] at hc'
        obtain ⟨⟨hadd, hpend⟩, hseg⟩ := hc'
        obtain ⟨o', A⟩ := okAdd_get hadd
        have := A.at_
        rw [ho] at this
        cases this
        split at hseg
        · rename_i G' hG'
          simp only [Bool.and_eq_true] at hseg
          have hr : ∀ t ∈ readsA c, look Ta t = look Tg t := by
            intro t ht
            refine H.lk t fun e he hd => hdep _ (A.dep e he t ht hd)
          -- what is known behind it
          have key : ∀ (s0 s1 : St), s0.σ = σ → s1.σ = σ → (∀ t, look s0.T t = look Tg t) → (∀ t, look s1.T t = look Ta t) → ∀ (v : AV) (σ' : List AB), (stabs P (s0.put c.d v σ').T σ' pend ∧ wpF P cs (s0.put c.d v σ') fun s => wpPlan P p' s K) →
              ∃ (s2 : St) (u : AV), s2.σ = (s1.put c.d v σ').σ ∧ (∀ t, look s2.T t = upd c.d u Tg t) ∧ (∀ t, look (s1.put c.d v σ').T t = upd c.d u Ta t) ∧ stabs P s2.T s2.σ pend ∧ wpF P cs s2 fun s => wpPlan P p' s K := by
            intro s0 s1 _ _ h0T h1T v σ' hh
            refine ⟨s0.put c.d v σ', v, ?_, ?_, ?_, ?_, hh.2⟩
            · cases c.d <;> rfl
            · intro t
              cases hcd : c.d with
              | none => rw [upd, if_neg (by simp)]; exact h0T t
              | some d =>
                simp only [St.put, look, upd]
                by_cases e : d = t
                · subst e; simp
                · rw [if_neg e, if_neg (by simpa using e)]; exact h0T t
            · intro t
              cases hcd : c.d with
              | none => rw [upd, if_neg (by simp)]; exact h1T t
              | some d =>
                simp only [St.put, look, upd]
                by_cases e : d = t
                · subst e; simp
                · rw [if_neg e, if_neg (by simpa using e)]; exact h1T t
            · have : (s0.put c.d v σ').σ = σ' := by cases c.d <;> rfl
              rw [this]
              exact hh.1
          refine wpOp_ok ho A.chk hs (K := fun s' => ∃ (s2 : St) (v : AV), s2.σ = s'.σ ∧ (∀ t, look s2.T t = upd c.d v Tg t) ∧ (∀ t, look s'.T t = upd c.d v Ta t) ∧ stabs P s2.T s2.σ pend ∧ wpF P cs s2 fun s => wpPlan P p' s K) ?_ ?_
          · simp only [wpPlan] at hw'
            cases hcg : c.g with
            | none =>
              rw [hcg] at hw'
              simp only at hw' ⊢
              rw [wpO_congrA (T' := Ta) fun t ht => (hr t (by simp [readsA, ht])).symm] at hw'
              exact wpO_mono (fun v σ' hv => key ⟨Tg, σ⟩ ⟨Ta, σ⟩ rfl rfl (fun _ => rfl) (fun _ => rfl) v σ' hv) hw'
            | some q =>
              obtain ⟨g, b⟩ := q
              rw [hcg] at hw'
              simp only at hw' ⊢
              have hgr : look Ta g = look Tg g := hr g (by simp [readsA, hcg])
              rw [hgr]
              split at hw'
              · rename_i x hx
                have hxa : look Ta g = .b x := by rw [hgr, hx]
                refine ⟨fun e => ?_, fun e => ?_⟩
                · have e' : x = b := by cases x <;> cases b <;> first | rfl | cases e
                  subst e'
                  have h4 := hw'.1 e
                  have e5 : wpO P c.o ((⟨Ta, σ⟩ : St).ref g x) (fun v σ' => stabs P (((⟨Tg, σ⟩ : St).ref g x).put c.d v σ').T σ' pend ∧ wpF P cs (((⟨Tg, σ⟩ : St).ref g x).put c.d v σ') fun s => wpPlan P p' s K) := by
                    refine Eq.mp (wpO_congrA fun t ht => ?_) h4
                    show (if g = t then AV.b x else look Tg t) = (if g = t then AV.b x else look Ta t)
                    rw [hr t (by simp [readsA, ht])]
                  exact wpO_mono (fun v σ' hv => key _ _ rfl rfl (ref_look (s := ⟨Tg, σ⟩) hx) (ref_look (s := ⟨Ta, σ⟩) hxa) v σ' hv) e5
                · have e' : x = !b := by cases x <;> cases b <;> first | rfl | cases e
                  subst e'
                  exact key _ _ rfl rfl (ref_look (s := ⟨Tg, σ⟩) hx) (ref_look (s := ⟨Ta, σ⟩) hxa) (.tup []) σ (hw'.2 e)
              · rename_i hx
                exact key ⟨Tg, σ⟩ ⟨Ta, σ⟩ rfl rfl (fun _ => rfl) (fun _ => rfl) (.tup []) σ hw'
              · exact hw'.elim
          · rintro s' ρ' a' w' ⟨s2, v, hσ2, hg2, ha2, hst, hq⟩ he' hN' hs'
            have H1 := H.hop A hdep hR hpend hg2 ha2 hst
            obtain ⟨T2, H2, hk2⟩ := seg_add (s := s2) rfl H1 hG' hq
            rw [hσ2] at H2 hk2
            exact ih _ (i :: R) G' p' T2 s'.T s'.σ ρ' a' w' H2 (fun j hj => by
              by_cases hji : j = i
              · rw [hji]; exact listi i
              · rw [listd _ _ hji]; exact hR j ((List.mem_cons.1 hj).resolve_left hji)) hseg.2 hseg.1 hk2 (fun n h => (he' n (Nat.lt_of_lt_of_le h hN)).trans (hρ n h)) (Nat.le_trans hN hN') hs' hcnt'
        · cases hseg
theorem plan_ok (hm : P.follows .mixedOrders = true) {id : Nat} {ix : List Nat} {cs : List LI} {p : Plan} (hc : chkRg P nt ops ix cs p = true) {L0 : Nat} {ρ : Pl} {s : St} {a : Act} {w : World} {Q : Exit → St → Prop}
    (hL : L0 ≤ s.σ.length) (hs : SimS F ρ nt s a w) (hw : wpF P cs s fun s' => wpPlan P p s' (Q .normal)) : (Code.region id ops true).wp P (Post F ρ nt L0 Q) a w := by
  simp only [chkRg, Bool.and_eq_true, List.all_eq_true] at hc
  obtain ⟨hb, hc⟩ := hc
  have hb' : ∀ (i : Nat) (o : Oper), ops[i]? = some o → ∀ e ∈ o.after, Region.binds .any e = true → e.on < i := by
    intro i o hi e he hbd
    have := hb (o, i) (List.mem_zipIdx_iff_getElem?.2 (by simpa using hi))
    simp only [Array.all_eq_true_iff_forall_mem, Bool.or_eq_true, decide_eq_true_eq] at this
    rcases this e he with h1 | h1
    · rw [hbd] at h1; cases h1
    · exact h1
  split at hc
  · rename_i G hG
    simp only [Bool.and_eq_true] at hc
    have H0 : PInv P nt ops (Array.replicate ops.size false) [] s.T s.T s.σ := by
      refine ⟨by simp, ?_, by simp, by simp, by simp, by simp, fun _ _ => rfl⟩
      intro i hi hb
      simp [Array.getD_eq_getD_getElem?, hi] at hb
    obtain ⟨T', H, hk⟩ := seg_add rfl H0 hG hw
    refine wp_region_any hm ?_
    refine plan_any (F := F) hb' (N0 := L0) (ρ0 := ρ) ?_ ops.size _ [] G p T' s.T s.σ ρ a _ H (fun j hj => by simp at hj) hc.2 hc.1 hk (fun _ _ => rfl) hL ⟨hs.1.drew, hs.2.1, hs.2.2.1, hs.2.2.2⟩ (by simp)
    intro s' ρ' a' w' hk' he hN hs'
    exact ⟨s', ρ', he, hN, hs', hk'⟩
  · cases hc
end
end Go.Abs
