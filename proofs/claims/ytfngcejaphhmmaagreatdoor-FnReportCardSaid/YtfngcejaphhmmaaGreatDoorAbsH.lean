import Derived.Test.YtfngcejaphhmmaaGreatDoorAbsG
namespace Go.Abs
set_option linter.unusedVariables false
set_option linter.unusedSimpArgs false
def chkDr (h : Nat) (ops : List Oper) (l : List LI) : Bool :=
  (ops.zipIdx.all fun p => p.1.after.all fun e => !(Region.binds .any e) || decide (e.on < p.2)) &&
  (ops.zipIdx.all fun p => decide (p.2 < h) || (List.range p.2).all fun i => p.1.after.any fun e => Region.binds .any e && e.on == i) &&
  (ops.zipIdx.all fun p => decide (h ≤ p.2) || match l[p.2]? with
    | some c => (reads c).all fun t => (List.range h).all fun j => match l[j]? with
      | some c' => c'.d != some t || p.1.after.any fun e => Region.binds .any e && e.on == j
      | none => true
    | none => false)
theorem SimS.congr {F : Fr} {ρ : Pl} {nt : Nat} {T T' : List (Nat × AV)} {σ : List AB} {a : Act} {w : World} (h : SimS F ρ nt ⟨T, σ⟩ a w) (he : ∀ t, look T t = look T' t) : SimS F ρ nt ⟨T', σ⟩ a w :=
  ⟨h.1, h.2.1, h.2.2.1, fun t => by have := h.2.2.2 t; rw [he t] at this; exact this⟩
def mk (Tf T0 : List (Nat × AV)) : List Nat → List (Nat × AV)
  | [] => T0
  | d :: ds => (d, look Tf d) :: mk Tf T0 ds
theorem mk_look (Tf T0 : List (Nat × AV)) (t : Nat) : ∀ ds : List Nat, look (mk Tf T0 ds) t = if t ∈ ds then look Tf t else look T0 t
  | [] => by simp [mk]
  | d :: ds => by
    simp only [mk, look]
    by_cases e : d = t
    · subst e; simp
    · rw [if_neg e, mk_look Tf T0 t ds]
      have e' : ¬ t = d := fun h => e h.symm
      simp [e']
theorem count_set {l : Array Bool} {i : Nat} (h : i < l.size) (hf : l[i] = false) : (l.setIfInBounds i true).toList.count false + 1 = l.toList.count false := by
  rw [Array.toList_setIfInBounds, List.count_set (by simpa using h)]
  have hi : l.toList[i]'(by simpa using h) = false := by simpa using hf
  have hpos : 0 < l.toList.count false := List.count_pos_iff.2 (by rw [← hi]; exact List.getElem_mem _)
  rw [hi]
  simp only [BEq.rfl, if_true]
  have : (true == false) = false := rfl
  simp only [this, Bool.false_eq_true, if_false]
  omega
theorem mem_ready {md : Region.Mode} {ops : Array Oper} {listed : Array Bool} {i : Nat} :
    i ∈ Region.ready md ops listed ↔ i < ops.size ∧ listed.getD i true = false ∧ ∃ o, ops[i]? = some o ∧ ∀ e ∈ o.after, Region.binds md e = true → listed.getD e.on false = true := by
  unfold Region.ready
  rw [List.mem_filter, List.mem_range]
  constructor
  · rintro ⟨h1, h2⟩
    simp only [Bool.and_eq_true, Bool.not_eq_true'] at h2
    refine ⟨h1, h2.1, ops[i], by simp [h1], ?_⟩
    have h3 := h2.2
    simp only [Array.getElem?_eq_getElem h1, Option.map_some, Option.getD_some, Array.all_eq_true_iff_forall_mem] at h3
    intro e he hb
    have := h3 e he
    simpa [hb] using this
  · rintro ⟨h1, h2, o, ho, h3⟩
    refine ⟨h1, ?_⟩
    simp only [Bool.and_eq_true, Bool.not_eq_true', ho, Option.map_some, Option.getD_some, Array.all_eq_true_iff_forall_mem]
    refine ⟨h2, fun e he => ?_⟩
    cases hb : Region.binds md e with
    | false => simp
    | true => simp [h3 e he hb]
theorem bnd_mono {o : Option AV} {d : Nat} {K K' : Nat → Prop} (h : ∀ n, K n → K' n) (hb : bnd o d K) : bnd o d K' := by
  unfold bnd at *
  split at hb
  · exact h _ hb
  · exact ⟨hb.1, h _ hb.2⟩
  · exact hb.elim
theorem fillP_mono {T : List (Nat × AV)} {K K' : List AV → Prop} (h : ∀ c, K c → K' c) : ∀ {l : List (Nat × Nat × X)} {z : List AV}, fillP T z l K → fillP T z l K'
  | [], _, hk => h _ hk
  | (_, _, _) :: _, _, hk => ⟨hk.1, fillP_mono h hk.2⟩
theorem ibin_mono {op : BinOp} {k : IntKind} {x y : Int} {K K' : AV → Prop} (h : ∀ v, K v → K' v) (hb : ibin op k x y K) : ibin op k x y K' := by
  cases op <;> simp only [ibin] at hb ⊢ <;> first
    | exact hb.elim
    | exact ⟨hb.1, hb.2.1, h _ hb.2.2⟩
    | exact ⟨hb.1, h _ hb.2⟩
    | exact h _ hb
theorem wpO_mono {P : Program} {s : St} {K K' : AV → List AB → Prop} {o : LO} (h : ∀ x σ, K x σ → K' x σ) (hw : wpO P o s K) : wpO P o s K' := by
  cases o
  case die => exact hw.elim
  case build z p => simp only [wpO] at hw ⊢; exact fillP_mono (fun c hc => h _ _ hc) hw
  case bsl ty z n p => simp only [wpO] at hw ⊢; exact fillP_mono (fun c hc => h _ _ hc) hw
  case call f l =>
    simp only [wpO] at hw ⊢
    split at hw
    · exact ⟨hw.1, hw.2.mono fun x σ _ hk => h x σ hk⟩
    · exact hw.elim
  case bin op x y =>
    simp only [wpO] at hw ⊢
    split at hw
    · exact ⟨hw.1, ibin_mono (fun v hv => h _ _ hv) hw.2⟩
    · exact hw.elim
  case slc sz x lo hi mx =>
    simp only [wpO] at hw ⊢
    split at hw
    · refine bnd_mono (fun m hm => bnd_mono (fun q hq => ?_) hm) hw
      cases lo with
      | none => exact ⟨hq.1, h _ _ hq.2⟩
      | some lo => exact bnd_mono (fun l hl => ⟨hl.1, fun e => h _ _ (hl.2.1 e), fun e => h _ _ (hl.2.2 e)⟩) hq
    · exact bnd_mono (fun m hm => bnd_mono (fun q hq => bnd_mono (fun l hl => ⟨hl.1, h _ _ hl.2⟩) hq) hm) hw
    · exact hw.elim
  case sslc x lo hi =>
    simp only [wpO] at hw ⊢
    split at hw
    · exact bnd_mono (fun l hl => bnd_mono (fun q hq => ⟨hq.1, h _ _ hq.2⟩) hl) hw
    · exact hw.elim
  case pick c a b =>
    simp only [wpO] at hw ⊢
    split at hw
    · exact ⟨fun e => h _ _ (hw.1 e), fun e => h _ _ (hw.2 e)⟩
    · exact hw.elim
  case snil x =>
    simp only [wpO] at hw ⊢
    split at hw
    · exact ⟨fun e e' => h _ _ (hw.1 e e'), h _ _ hw.2⟩
    · exact h _ _ hw
    · exact hw.elim
  case app ty sz by_ x y =>
    simp only [wpO] at hw ⊢
    split at hw
    · split at hw
      · exact ⟨hw.1, fun e => h _ _ (hw.2.1 e), fun e cap hc => h _ _ (hw.2.2 e cap hc)⟩
      · exact hw.elim
    · split at hw
      · exact ⟨hw.1, fun cap hc => h _ _ (hw.2 cap hc)⟩
      · exact hw.elim
    · exact ⟨hw.1, h _ _ hw.2⟩
    · exact h _ _ hw
    · exact hw.elim
  case appf ty sz by_ x y =>
    simp only [wpO] at hw ⊢
    split at hw
    · split at hw
      · exact ⟨hw.1, fun e => h _ _ (hw.2.1 e), fun e cap hc => h _ _ (hw.2.2 e cap hc)⟩
      · exact hw.elim
    · exact ⟨hw.1, h _ _ hw.2⟩
    · split at hw
      · exact ⟨hw.1, fun e => h _ _ (hw.2.1 e), fun e cap hc => h _ _ (hw.2.2 e cap hc)⟩
      · exact hw.elim
    · exact h _ _ hw
    · exact hw.elim
  all_goals
    simp only [wpO] at hw ⊢
    first
      | exact h _ _ hw
      | exact ⟨hw.1, h _ _ hw.2⟩
      | (split at hw <;> first | exact hw.elim | exact h _ _ hw | exact ⟨hw.1, h _ _ hw.2⟩)
      | (split at hw <;> first | exact hw.elim | (split at hw <;> first | exact hw.elim | exact h _ _ hw | exact ⟨hw.1, h _ _ hw.2⟩ | exact ⟨hw.1, hw.2.1, hw.2.2.1, h _ _ hw.2.2.2⟩))
section
variable {P : Program} {ops : Array Oper} {nt : Nat} {F : Fr} {l : List LI} {h : Nat}
theorem chk_at (hc : chkL P nt ops ops.toList l = true) {i : Nat} {o : Oper} (hi : ops[i]? = some o) : ∃ c, l[i]? = some c ∧ chkI P nt ops o c = true := by
  have main : ∀ {os : List Oper} {r : List LI}, chkL P nt ops os r = true → ∀ {i : Nat} {o : Oper}, os[i]? = some o → ∃ c, r[i]? = some c ∧ chkI P nt ops o c = true := by
    intro os
    induction os with
    | nil => intro r _ i o hi; simp at hi
    | cons o' os ih =>
      intro r hc i o hi
      cases r with
      | nil => cases hc
      | cons c r =>
        simp only [chkL, Bool.and_eq_true] at hc
        cases i with
        | zero => simp at hi; subst hi; exact ⟨c, rfl, hc.1⟩
        | succ i => simp at hi ⊢; exact ih hc.2 hi
  exact main hc (by simpa using hi)
theorem chk_len (hc : chkL P nt ops ops.toList l = true) : l.length = ops.size := by
  have main : ∀ {os : List Oper} {r : List LI}, chkL P nt ops os r = true → r.length = os.length := by
    intro os
    induction os with
    | nil => intro r hc; cases r with | nil => rfl | cons _ _ => cases hc
    | cons o' os ih =>
      intro r hc
      cases r with
      | nil => cases hc
      | cons c r => simp only [chkL, Bool.and_eq_true] at hc; simp [ih hc.2]
  simpa using main hc
theorem dr_back (hd : chkDr h ops.toList l = true) {i : Nat} {o : Oper} (hi : ops[i]? = some o) {e : Edge} (he : e ∈ o.after) (hbd : Region.binds .any e = true) : e.on < i := by
  simp only [chkDr, Bool.and_eq_true, List.all_eq_true] at hd
  have := hd.1.1 (o, i) (List.mem_zipIdx_iff_getElem?.2 (by simpa using hi))
  simp only [Array.all_eq_true_iff_forall_mem, Bool.or_eq_true, decide_eq_true_eq] at this
  rcases this e he with h1 | h1
  · rw [hbd] at h1; cases h1
  · exact h1
theorem dr_tail (hd : chkDr h ops.toList l = true) {i : Nat} {o : Oper} (hi : ops[i]? = some o) (hh : h ≤ i) {j : Nat} (hj : j < i) : ∃ e ∈ o.after, Region.binds .any e = true ∧ e.on = j := by
  simp only [chkDr, Bool.and_eq_true, List.all_eq_true] at hd
  have := hd.1.2 (o, i) (List.mem_zipIdx_iff_getElem?.2 (by simpa using hi))
  simp only [Bool.or_eq_true, decide_eq_true_eq, List.all_eq_true, List.mem_range] at this
  rcases this with h1 | h1
  · omega
  · have h2 := h1 j hj
    simp only [Array.any_eq_true', Bool.and_eq_true, beq_iff_eq] at h2
    exact h2
theorem dr_reads (hd : chkDr h ops.toList l = true) {i : Nat} {o : Oper} (hi : ops[i]? = some o) (hh : i < h) {c : LI} (hc : l[i]? = some c) {t : Nat} (ht : t ∈ reads c) {j : Nat} (hj : j < h) {c' : LI} (hc' : l[j]? = some c') (hdst : c'.d = some t) :
    ∃ e ∈ o.after, Region.binds .any e = true ∧ e.on = j := by
  simp only [chkDr, Bool.and_eq_true, List.all_eq_true] at hd
  have := hd.2 (o, i) (List.mem_zipIdx_iff_getElem?.2 (by simpa using hi))
  simp only [Bool.or_eq_true, decide_eq_true_eq] at this
  rcases this with h1 | h1
  · omega
  · rw [hc] at h1
    simp only [List.all_eq_true, List.mem_range] at h1
    have h2 := h1 t ht j hj
    rw [hc'] at h2
    simp only [Bool.or_eq_true, bne_iff_ne, ne_eq] at h2
    rcases h2 with h2 | h2
    · exact absurd hdst h2
    · simp only [Array.any_eq_true', Bool.and_eq_true, beq_iff_eq] at h2
      exact h2
theorem tail_any (hc : chkL P nt ops ops.toList l = true) (hd : chkDr h ops.toList l = true) {Q : Exit → Act → World → Prop} {K : St → Prop} : ∀ (fuel k : Nat) (listed : Array Bool), listed.size = ops.size → h ≤ k → k ≤ ops.size → (∀ i, i < ops.size → listed.getD i true = decide (i < k)) →
    ops.size ≤ fuel + k → ∀ {ρ : Pl} {s : St} {a : Act} {w : World}, SimS F ρ nt s a w → wpI P (l.drop k) s K →
    (∀ s' ρ' a' w', K s' → (∀ n, n < s.σ.length → ρ' n = ρ n) → s.σ.length ≤ s'.σ.length → SimS F ρ' nt s' a' w' → Q .normal a' w') → wpAny P .any ops Q fuel listed a w := by
  intro fuel
  induction fuel with
  | zero =>
    intro k listed hsz hk hk' hl hf ρ s a w hs hw hn
    have hkk : k = ops.size := by omega
    have hlen := chk_len hc
    rw [List.drop_of_length_le (by omega)] at hw
    refine ⟨?_, hn s ρ a w hw (fun _ _ => rfl) (Nat.le_refl _) hs⟩
    rw [List.eq_nil_iff_forall_not_mem]
    intro i hi
    obtain ⟨h1, h2, _⟩ := mem_ready.1 hi
    rw [hl i h1] at h2
    simp at h2
    omega
  | succ fuel ih =>
    intro k listed hsz hk hk' hl hf ρ s a w hs hw hn
    have hlen := chk_len hc
    rcases Nat.lt_or_ge k ops.size with hlt | hge
    · -- operation k is the one that is ready
      have hko : ops[k]? = some ops[k] := by simp [hlt]
      obtain ⟨c, hcl, hci⟩ := chk_at hc hko
      have hdrop : l.drop k = c :: l.drop (k + 1) := by
        rw [List.drop_eq_getElem_cons (by omega)]
        congr 1
        rw [List.getElem?_eq_getElem (by omega)] at hcl
        simpa using hcl
      have hrd : k ∈ Region.ready .any ops listed := by
        refine mem_ready.2 ⟨hlt, by rw [hl k hlt]; simp, ops[k], hko, fun e he hbd => ?_⟩
        have h1 := dr_back hd hko he hbd
        have h2 := hl e.on (by omega)
        rw [Array.getD_eq_getD_getElem?] at h2 ⊢
        rw [Array.getElem?_eq_getElem (by omega)] at h2 ⊢
        simp only [Option.getD_some] at h2 ⊢
        rw [h2]; simp; omega
      refine ⟨fun h0 => (by rw [h0] at hrd; exact absurd hrd (by simp)), ?_⟩
      intro i hi
      obtain ⟨h1, h2, o, ho, h3⟩ := mem_ready.1 hi
      have hik : i = k := by
        rw [hl i h1] at h2
        simp at h2
        rcases Nat.lt_or_ge k i with h4 | h4
        · obtain ⟨e, he, hb, hj⟩ := dr_tail hd ho (by omega) h4
          have h5 := h3 e he hb
          rw [hj, Array.getD_eq_getD_getElem?, Array.getElem?_eq_getElem (by omega)] at h5
          have h6 := hl k hlt
          rw [Array.getD_eq_getD_getElem?, Array.getElem?_eq_getElem (by omega)] at h6
          simp only [Option.getD_some] at h5 h6
          rw [h5] at h6
          simp at h6
        · omega
      subst hik
      rw [hko] at ho
      cases ho
      rw [hdrop] at hw
      refine wpOp_ok hko hci hs (K := fun s' => wpI P (l.drop (i + 1)) s' K) ?_ ?_
      · simp only [wpI] at hw
        cases hcg : c.g with
        | none => rw [hcg] at hw; exact hw
        | some p => rw [hcg] at hw; exact hw
      · intro s' ρ' a' w' hk2 he hN hs'
        refine ih (i + 1) _ (by simpa using hsz) (by omega) (by omega) ?_ (by omega) hs' hk2 fun s2 ρ2 a2 w2 hk3 he2 hN2 hs2 => hn s2 ρ2 a2 w2 hk3 (fun n h => (he2 n (by omega)).trans (he n h)) (by omega) hs2
        intro j hj
        rw [Array.getD_eq_getD_getElem?, Array.getElem?_setIfInBounds]
        have h6 := hl j hj
        rw [Array.getD_eq_getD_getElem?] at h6
        by_cases e : i = j
        · subst e; simp [hsz, hlt]
        · rw [if_neg e, h6]
          congr 1
          simp only [eq_iff_iff]
          omega
    · have hkk : k = ops.size := by omega
      rw [List.drop_of_length_le (by omega)] at hw
      refine ⟨fun _ => hn s ρ a w hw (fun _ _ => rfl) (Nat.le_refl _) hs, ?_⟩
      intro i hi
      obtain ⟨h1, h2, _⟩ := mem_ready.1 hi
      rw [hl i h1] at h2
      simp at h2
      omega
theorem head_any (hc : chkL P nt ops ops.toList l = true) (hd : chkDr h ops.toList l = true) {σ : List AB} {Tf T0 : List (Nat × AV)} (hh : h ≤ l.length)
    (hT : ∀ t, (∀ c ∈ l.take h, c.d ≠ some t) → look Tf t = look T0 t) (hok : ∀ c ∈ l.take h, OkAt P σ Tf c)
    {Q : Exit → Act → World → Prop} {K : St → Prop} (hw : wpI P (l.drop h) ⟨Tf, σ⟩ K) {ρ0 : Pl}
    (hn : ∀ s' ρ' a' w', K s' → (∀ n, n < σ.length → ρ' n = ρ0 n) → σ.length ≤ s'.σ.length → SimS F ρ' nt s' a' w' → Q .normal a' w') :
    ∀ (fuel : Nat) (listed : Array Bool) (ds : List Nat), listed.size = ops.size → (∀ j, h ≤ j → j < ops.size → listed.getD j true = false) →
    (∀ i c d, i < h → l[i]? = some c → listed.getD i true = true → c.d = some d → d ∈ ds) → (∀ d ∈ ds, ∃ i c, i < h ∧ l[i]? = some c ∧ listed.getD i true = true ∧ c.d = some d) →
    listed.toList.count false ≤ fuel → ∀ {ρ : Pl} {a : Act} {w : World}, (∀ n, n < σ.length → ρ n = ρ0 n) → SimS F ρ nt ⟨mk Tf T0 ds, σ⟩ a w → wpAny P .any ops Q fuel listed a w := by
  have hlen := chk_len hc
  have mem_take : ∀ {i : Nat} {c : LI}, i < h → l[i]? = some c → c ∈ l.take h := by
    intro i c hi hcl
    refine List.mem_of_getElem? (i := i) ?_
    rw [List.getElem?_take, if_pos hi]
    exact hcl
  intro fuel
  induction fuel with
  | zero =>
    intro listed ds hsz htl hds hds' hcnt ρ a w hρ hs
    -- all are listed: so there is no tail
    have hall : ∀ i, i < ops.size → listed.getD i true = true := by
      intro i hi
      cases hb : listed.getD i true with
      | true => rfl
      | false =>
        rw [Array.getD_eq_getD_getElem?, Array.getElem?_eq_getElem (by omega), Option.getD_some] at hb
        have : 0 < listed.toList.count false := List.count_pos_iff.2 (by rw [← hb]; simp)
        omega
    have hhn : h = ops.size := by
      rcases Nat.lt_or_ge h ops.size with h1 | h1
      · have := htl h (Nat.le_refl _) h1
        rw [hall h h1] at this; cases this
      · omega
    rw [List.drop_of_length_le (by omega)] at hw
    have hs' : SimS F ρ nt ⟨Tf, σ⟩ a w := hs.congr fun t => by
      rw [mk_look]
      split
      · rfl
      · rename_i hnd
        refine (hT t fun c hcm hcd => ?_).symm
        obtain ⟨i, hi⟩ := List.getElem?_of_mem hcm
        rw [List.getElem?_take] at hi
        split at hi
        · rename_i hih
          exact hnd (hds i c t hih hi (hall i (by omega)) hcd)
        · cases hi
    refine ⟨?_, hn _ ρ a w hw hρ (Nat.le_refl _) hs'⟩
    rw [List.eq_nil_iff_forall_not_mem]
    intro i hi
    obtain ⟨h1, h2, _⟩ := mem_ready.1 hi
    rw [hall i h1] at h2
    cases h2
  | succ fuel ih =>
    intro listed ds hsz htl hds hds' hcnt ρ a w hρ hs
    by_cases hall : ∀ i, i < h → listed.getD i true = true
    · -- the tail
      have hs' : SimS F ρ nt ⟨Tf, σ⟩ a w := hs.congr fun t => by
        rw [mk_look]
        split
        · rfl
        · rename_i hnd
          refine (hT t fun c hcm hcd => ?_).symm
          obtain ⟨i, hi⟩ := List.getElem?_of_mem hcm
          rw [List.getElem?_take] at hi
          split at hi
          · rename_i hih
            exact hnd (hds i c t hih hi (hall i hih) hcd)
          · cases hi
      have hlist : ∀ i, i < ops.size → listed.getD i true = decide (i < h) := by
        intro i hi
        by_cases hih : i < h
        · rw [hall i hih]; simp [hih]
        · rw [htl i (by omega) hi]; simp [hih]
      -- enough rounds for the tail
      have hfu : ops.size ≤ fuel + 1 + h := by
        have e : listed.toList = List.replicate h true ++ List.replicate (ops.size - h) false := by
          apply List.ext_getElem?
          intro i
          rw [List.getElem?_append]
          simp only [List.length_replicate, List.getElem?_replicate]
          rcases Nat.lt_or_ge i ops.size with hi | hi
          · have h1 := hlist i hi
            rw [Array.getD_eq_getD_getElem?, Array.getElem?_eq_getElem (by omega), Option.getD_some] at h1
            rw [Array.getElem?_toList, Array.getElem?_eq_getElem (by omega), h1]
            by_cases hih : i < h
            · simp [hih]
            · simp only [hih, if_false, decide_false]
              rw [if_pos (by omega)]
          · rw [Array.getElem?_toList, Array.getElem?_eq_none (by omega)]
            rw [if_neg (by omega), if_neg (by omega)]
        rw [e, List.count_append, List.count_replicate, List.count_replicate] at hcnt
        simp at hcnt
        omega
      exact tail_any hc hd (fuel + 1) h listed hsz (Nat.le_refl _) (by omega) hlist hfu hs' hw fun s2 ρ2 a2 w2 k2 e2 n2 q2 => hn s2 ρ2 a2 w2 k2 (fun n h => (e2 n h).trans (hρ n h)) n2 q2
    · -- one of the first part is not listed
      have hex : ∃ i, i < h ∧ listed.getD i true = false := by
        refine Classical.byContradiction fun hno => hall fun i hi => ?_
        cases hb : listed.getD i true with
        | true => rfl
        | false => exact absurd ⟨i, hi, hb⟩ hno
      -- the least such
      have hleast : ∃ i, i < h ∧ listed.getD i true = false ∧ ∀ j, j < i → listed.getD j true = true := by
        obtain ⟨i, hi, hb⟩ := hex
        induction i using Nat.strongRecOn with
        | _ i ih2 =>
          by_cases hj : ∃ j, j < i ∧ listed.getD j true = false
          · obtain ⟨j, hj1, hj2⟩ := hj
            exact ih2 j hj1 (by omega) hj2
          · refine ⟨i, hi, hb, fun j hj1 => ?_⟩
            cases hb' : listed.getD j true with
            | true => rfl
            | false => exact absurd ⟨j, hj1, hb'⟩ hj
      obtain ⟨i0, hi0, hb0, hl0⟩ := hleast
      have flip : ∀ j, j < ops.size → listed.getD j false = listed.getD j true := by
        intro j hj
        rw [Array.getD_eq_getD_getElem?, Array.getD_eq_getD_getElem?, Array.getElem?_eq_getElem (by omega)]
        rfl
      have hrd : i0 ∈ Region.ready .any ops listed := by
        have hlt : i0 < ops.size := by omega
        refine mem_ready.2 ⟨hlt, hb0, ops[i0], by simp [hlt], fun e he hbd => ?_⟩
        have h1 := dr_back hd (show ops[i0]? = some ops[i0] by simp [hlt]) he hbd
        rw [flip _ (by omega)]
        exact hl0 _ h1
      refine ⟨fun h0 => (by rw [h0] at hrd; exact absurd hrd (by simp)), ?_⟩
      intro i hi
      obtain ⟨h1, h2, o, ho, h3⟩ := mem_ready.1 hi
      have hih : i < h := by
        rcases Nat.lt_or_ge i h with h4 | h4
        · exact h4
        · obtain ⟨e, he, hb, hj⟩ := dr_tail hd ho h4 (show i0 < i by omega)
          have h5 := h3 e he hb
          rw [hj, flip _ (by omega), hb0] at h5
          cases h5
      obtain ⟨c, hcl, hci⟩ := chk_at hc ho
      -- what it reads is as in the last state
      have hread : ∀ t ∈ reads c, look (mk Tf T0 ds) t = look Tf t := by
        intro t ht
        rw [mk_look]
        split
        · rfl
        · rename_i hnd
          refine (hT t fun c' hcm hcd => ?_).symm
          obtain ⟨j, hj⟩ := List.getElem?_of_mem hcm
          rw [List.getElem?_take] at hj
          split at hj
          · rename_i hjh
            obtain ⟨e, he, hb, hje⟩ := dr_reads hd ho hih hcl ht hjh hj hcd
            have h5 := h3 e he hb
            rw [hje, flip _ (by omega)] at h5
            exact hnd (hds j c' t hjh hj h5 hcd)
          · cases hj
      have hOk := hok c (mem_take hih hcl)
      have hlistd : ∀ j, j ≠ i → (listed.setIfInBounds i true).getD j true = listed.getD j true := by
        intro j hj
        rw [Array.getD_eq_getD_getElem?, Array.getD_eq_getD_getElem?, Array.getElem?_setIfInBounds, if_neg (fun e => hj e.symm)]
      have hlisti : (listed.setIfInBounds i true).getD i true = true := by
        rw [Array.getD_eq_getD_getElem?, Array.getElem?_setIfInBounds, if_pos rfl]
        simp [hsz, h1]
      have hcnt' : (listed.setIfInBounds i true).toList.count false ≤ fuel := by
        rw [Array.getD_eq_getD_getElem?, Array.getElem?_eq_getElem (by omega), Option.getD_some] at h2
        have := count_set (by omega) h2
        omega
      -- the round behind it
      have next : ∀ (s' : St) (ρ' : Pl) (a' : Act) (w' : World) (v : AV), (∀ n, n < σ.length → ρ' n = ρ0 n) → SimS F ρ' nt s' a' w' → s'.σ = σ → (∀ t, look s'.T t = look ((⟨mk Tf T0 ds, σ⟩ : St).put c.d v σ).T t) → (∀ d, c.d = some d → look Tf d = v) →
          wpAny P .any ops Q fuel (listed.setIfInBounds i true) a' w' := by
        intro s' ρ' a' w' v hρ' hs' hσ hlook hv
        obtain ⟨T', σ'⟩ := s'
        simp only at hσ hlook
        subst hσ
        cases hcd : c.d with
        | none =>
          refine ih _ ds (by simpa using hsz) ?_ ?_ ?_ hcnt' hρ' (hs'.congr fun t => by rw [hlook t, hcd]; rfl)
          · intro j hj hj2; rw [hlistd j (by omega)]; exact htl j hj hj2
          · intro j c' d hj hc' hl' hd'
            by_cases e : j = i
            · subst e; rw [hcl] at hc'; cases hc'; rw [hcd] at hd'; cases hd'
            · rw [hlistd j e] at hl'; exact hds j c' d hj hc' hl' hd'
          · intro d hd'
            obtain ⟨j, c', x1, x2, x3, x4⟩ := hds' d hd'
            refine ⟨j, c', x1, x2, ?_, x4⟩
            by_cases e : j = i
            · subst e; exact hlisti
            · rw [hlistd j e]; exact x3
        | some d0 =>
          refine ih _ (d0 :: ds) (by simpa using hsz) ?_ ?_ ?_ hcnt' hρ' (hs'.congr fun t => by rw [hlook t, hcd]; simp only [St.put, mk, look, hv d0 hcd])
          · intro j hj hj2; rw [hlistd j (by omega)]; exact htl j hj hj2
          · intro j c' d hj hc' hl' hd'
            by_cases e : j = i
            · subst e; rw [hcl] at hc'; cases hc'; rw [hcd] at hd'; cases hd'; simp
            · rw [hlistd j e] at hl'; exact List.mem_cons_of_mem _ (hds j c' d hj hc' hl' hd')
          · intro d hd'
            rcases List.mem_cons.1 hd' with rfl | hd'
            · exact ⟨i, c, hih, hcl, hlisti, hcd⟩
            · obtain ⟨j, c', x1, x2, x3, x4⟩ := hds' d hd'
              refine ⟨j, c', x1, x2, ?_, x4⟩
              by_cases e : j = i
              · subst e; exact hlisti
              · rw [hlistd j e]; exact x3
      -- running it
      have runs : RunAt P σ Tf c → ∀ (s0 : St), s0.σ = σ → (∀ t, look s0.T t = look (mk Tf T0 ds) t) → ∃ v, (∀ d, c.d = some d → look Tf d = v) ∧ wpO P c.o s0 fun y σ' => y = v ∧ σ' = σ := by
        rintro ⟨v, hp, hv⟩ s0 h0 h0T
        refine ⟨v, hv, ?_⟩
        obtain ⟨T', σ'⟩ := s0
        simp only at h0 h0T
        subst h0
        rw [wpP_congr (T' := T') fun t ht => by rw [h0T t, hread t (by simp [reads, ht])]] at hp
        obtain ⟨v', hk, _, hq⟩ := wpP_det hp
        rw [← hk]
        exact hq
      -- one step
      have step : ∀ (v : AV) (hv : ∀ d, c.d = some d → look Tf d = v) (hm : match c.g with
          | none => wpO P c.o ⟨mk Tf T0 ds, σ⟩ fun y σ' => y = v ∧ σ' = σ
          | some (g, b) => match look (mk Tf T0 ds) g with
            | .b x => (x = b → wpO P c.o ((⟨mk Tf T0 ds, σ⟩ : St).ref g b) fun y σ' => y = v ∧ σ' = σ) ∧ (x = !b → v = .tup [])
            | .tup [] => v = .tup []
            | _ => False), wpOp P ops Q i (wpAny P .any ops Q fuel (listed.setIfInBounds i true)) a w := by
        intro v hv hm
        refine wpOp_ok ho hci hs (K := fun s' => s'.σ = σ ∧ ∀ t, look s'.T t = look ((⟨mk Tf T0 ds, σ⟩ : St).put c.d v σ).T t) ?_ ?_
        · have put1 : ∀ (s0 : St), s0.σ = σ → (∀ t, look s0.T t = look (mk Tf T0 ds) t) → ∀ (y : AV) (σ' : List AB), (y = v ∧ σ' = σ) → (s0.put c.d y σ').σ = σ ∧ ∀ t, look (s0.put c.d y σ').T t = look ((⟨mk Tf T0 ds, σ⟩ : St).put c.d v σ).T t := by
            rintro s0 h0 h0T y σ' ⟨rfl, rfl⟩
            cases c.d with
            | none => exact ⟨rfl, h0T⟩
            | some d => exact ⟨rfl, fun t => by simp only [St.put, look, h0T t]⟩
          have mono : ∀ (s0 : St), s0.σ = σ → (∀ t, look s0.T t = look (mk Tf T0 ds) t) → wpO P c.o s0 (fun y σ' => y = v ∧ σ' = σ) → wpO P c.o s0 fun y σ' => (s0.put c.d y σ').σ = σ ∧ ∀ t, look (s0.put c.d y σ').T t = look ((⟨mk Tf T0 ds, σ⟩ : St).put c.d v σ).T t := by
            intro s0 h0 h0T hq
            exact wpO_mono (fun y σ' hy => put1 s0 h0 h0T y σ' hy) hq
          cases hcg : c.g with
          | none => rw [hcg] at hm; exact mono _ rfl (fun _ => rfl) hm
          | some p =>
            obtain ⟨g, b⟩ := p
            rw [hcg] at hm
            simp only at hm ⊢
            split at hm
            · rename_i x hx
              rw [hx]
              refine ⟨fun e => ?_, fun e => ?_⟩
              · obtain rfl : x = b := by simpa using e
                exact mono _ rfl (ref_look hx) (hm.1 rfl)
              · obtain rfl : x = !b := by cases x <;> cases b <;> simp_all
                exact put1 ((⟨mk Tf T0 ds, σ⟩ : St).ref g !b) rfl (ref_look hx) (.tup []) σ ⟨(hm.2 rfl).symm, rfl⟩
            · rename_i hx
              rw [hx]
              exact put1 ⟨mk Tf T0 ds, σ⟩ rfl (fun _ => rfl) (.tup []) σ ⟨hm.symm, rfl⟩
            · exact hm.elim
        · intro s' ρ' a' w' hk he hN hs'
          exact next s' ρ' a' w' v (fun n h => (he n h).trans (hρ n h)) hs' hk.1 hk.2 hv
      unfold OkAt at hOk
      cases hcg : c.g with
      | none =>
        rw [hcg] at hOk
        obtain ⟨v, hv, hq⟩ := runs hOk ⟨mk Tf T0 ds, σ⟩ rfl fun _ => rfl
        exact step v hv (by rw [hcg]; exact hq)
      | some p =>
        obtain ⟨g, b⟩ := p
        rw [hcg] at hOk
        rcases hOk with ⟨x, hx, hyes, hno⟩ | ⟨hx, hno⟩
        rotate_left
        · refine step (.tup []) hno ?_
          rw [hcg]
          simp only [show look (mk Tf T0 ds) g = .tup [] by rw [hread g (by simp [reads, hcg]), hx]]
        have hx' : look (mk Tf T0 ds) g = .b x := by rw [hread g (by simp [reads, hcg]), hx]
        by_cases e : x = b
        · subst e
          obtain ⟨v, hv, hq⟩ := runs (hyes rfl) ((⟨mk Tf T0 ds, σ⟩ : St).ref g x) rfl (ref_look hx')
          refine step v hv ?_
          rw [hcg]
          simp only [hx']
          exact ⟨fun _ => hq, fun e => by cases x <;> cases e⟩
        · have e' : x = !b := by cases x <;> cases b <;> simp_all
          refine step (.tup []) (hno e') ?_
          rw [hcg]
          simp only [hx']
          exact ⟨fun h => absurd h e, fun _ => trivial⟩
end
end Go.Abs
