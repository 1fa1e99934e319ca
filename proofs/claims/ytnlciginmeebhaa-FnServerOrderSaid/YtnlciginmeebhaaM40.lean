import Derived.Test.YtnlciginmeebhaaMX
namespace Go.Ds
structure Arr where
  t : Int
  e : Int
  deriving DecidableEq, Inhabited
def arrAt (L : List Arr) (k : Nat) (h : k < L.length) : Prop := (0 ≤ L[k].t ∧ L[k].t ≤ 119) ∧ (1 ≤ L[k].e ∧ L[k].e ≤ 20) ∧ ∀ h0 : 0 < k, (L[k - 1]'(by omega)).t ≤ L[k].t
def arrLegal (L : List Arr) : Prop := L.length ≤ 20 ∧ ∀ k (h : k < L.length), arrAt L k h
noncomputable instance (L : List Arr) : Decidable (arrLegal L) := Classical.propDecidable _
structure Srv where
  B : Int
  P : Int
  deriving DecidableEq, Inhabited
def Srv.ok (x : Srv) : Prop := (1 ≤ x.B ∧ x.B ≤ x.P) ∧ x.P ≤ 12
instance (x : Srv) : Decidable x.ok := by unfold Srv.ok; infer_instance
def srvOk (X : List Srv) : Prop := X.length ≤ 2 ∧ ∀ x ∈ X, x.ok
instance (X : List Srv) : Decidable (srvOk X) := by unfold srvOk; infer_instance
def gS (X : List Srv) (k : Nat) : Srv := X.getD k default
def gA (A : List Arr) (k : Nat) : Arr := A.getD k default
def gAA (AA : List (List Arr)) (k : Nat) : List Arr := AA.getD k []
/-- A server at work: what is left of its budget, its deadline, how many requests have come, which one is served, for how long. -/
structure Sv where
  left : Int
  dl : Int
  came : Nat
  at_ : Nat
  done : Int
  deriving DecidableEq, Inhabited
def pend (s : Sv) : Bool := decide (s.at_ < s.came)
def comes (x : Srv) (now : Int) (s : Sv) : Sv := if s.came ≤ s.at_ ∧ (s.dl - now) * x.B ≤ s.left * x.P then ⟨x.B, now + x.P, s.came + 1, s.at_, s.done⟩ else ⟨s.left, s.dl, s.came + 1, s.at_, s.done⟩
def admitN (x : Srv) (A : List Arr) (now : Int) : Nat → Sv → Sv
  | 0, s => s
  | n + 1, s => if s.came < A.length ∧ (gA A s.came).t = now then admitN x A now n (comes x now s) else s
def admS (x : Srv) (A : List Arr) (now : Int) (s : Sv) : Sv := admitN x A now (A.length - s.came) s
def ends (A : List Arr) (s : Sv) : Bool := decide ((gA A s.at_).e ≤ s.done + 1)
def serve (x : Srv) (A : List Arr) (s : Sv) : Sv :=
  ⟨if s.left - 1 = 0 then x.B else s.left - 1, if s.left - 1 = 0 then s.dl + x.P else s.dl, s.came, if ends A s = true then s.at_ + 1 else s.at_, if ends A s = true then 0 else s.done + 1⟩
def gV (w : List Sv) (k : Nat) : Sv := w.getD k default
def admitAll (X : List Srv) (AA : List (List Arr)) (now : Int) (w : List Sv) : List Sv := (List.range X.length).map fun k => admS (gS X k) (gAA AA k) now (gV w k)
def cand (n : Nat) (w : List Sv) : Int := bestF n (fun k => pend (gV w k)) fun k => (gV w k).dl
def srvGo (n : Nat) (L : List Job) (w : List Sv) (now : Nat) (done : List Int) : Int :=
  if cand n w < 0 ∨ (0 ≤ edfPick L now done ∧ (L.getD (edfPick L now done).toNat default).D ≤ (gV w (cand n w).toNat).dl) then -1 else cand n w
structure SS where
  sv : List Sv
  ch : List Int
  sd : List (List Int)
def gR (R : List (List Int)) (k : Nat) : List Int := R.getD k []
def srvPick (X : List Srv) (AA : List (List Arr)) (L : List Job) (st : SS) (now : Nat) (done : List Int) : Int × SS :=
  if srvGo X.length L (admitAll X AA now st.sv) now done < 0 then (edfPick L now done, ⟨admitAll X AA now st.sv, st.ch, st.sd⟩)
  else (-1, ⟨(admitAll X AA now st.sv).set (srvGo X.length L (admitAll X AA now st.sv) now done).toNat
      (serve (gS X (srvGo X.length L (admitAll X AA now st.sv) now done).toNat) (gAA AA (srvGo X.length L (admitAll X AA now st.sv) now done).toNat) (gV (admitAll X AA now st.sv) (srvGo X.length L (admitAll X AA now st.sv) now done).toNat)),
    st.ch.set now (srvGo X.length L (admitAll X AA now st.sv) now done),
    if ends (gAA AA (srvGo X.length L (admitAll X AA now st.sv) now done).toNat) (gV (admitAll X AA now st.sv) (srvGo X.length L (admitAll X AA now st.sv) now done).toNat) = true then
      st.sd.set (srvGo X.length L (admitAll X AA now st.sv) now done).toNat ((gR st.sd (srvGo X.length L (admitAll X AA now st.sv) now done).toNat).set (gV (admitAll X AA now st.sv) (srvGo X.length L (admitAll X AA now st.sv) now done).toNat).at_ (now + 1))
    else st.sd⟩)
def sv0 (x : Srv) : Sv := ⟨x.B, 0, 0, 0, 0⟩
def ss0 (X : List Srv) (AA : List (List Arr)) : SS := ⟨X.map sv0, List.replicate 120 (-1), AA.map fun a => List.replicate a.length (-1)⟩
abbrev srvS (X : List Srv) (AA : List (List Arr)) (L : List Job) (k : Nat) : Sch SS := sim L (srvPick X AA L) (ss0 X AA) k
def svT (X : List Srv) (AA : List (List Arr)) (L : List Job) (t k : Nat) : Sv := gV (srvS X AA L t).st.sv k
def wT (X : List Srv) (AA : List (List Arr)) (L : List Job) (t : Nat) : List Sv := admitAll X AA t (srvS X AA L t).st.sv
def goT (X : List Srv) (AA : List (List Arr)) (L : List Job) (t : Nat) : Int := srvGo X.length L (wT X AA L t) t (srvS X AA L t).done
def srvRun (X : List Srv) (AA : List (List Arr)) (L : List Job) : List Int := (srvS X AA L 120).run
def srvFin (X : List Srv) (AA : List (List Arr)) (L : List Job) : List Int := (srvS X AA L 120).fin
def srvCh (X : List Srv) (AA : List (List Arr)) (L : List Job) : List Int := (srvS X AA L 120).st.ch
def srvSd (X : List Srv) (AA : List (List Arr)) (L : List Job) : List (List Int) := (srvS X AA L 120).st.sd
section
variable {X : List Srv} {AA : List (List Arr)} {L : List Job}
theorem admitAll_len {now : Int} {w : List Sv} : (admitAll X AA now w).length = X.length := by simp [admitAll]
theorem admitAll_get {now : Int} {w : List Sv} {k : Nat} (h : k < X.length) : gV (admitAll X AA now w) k = admS (gS X k) (gAA AA k) now (gV w k) := by
  simp [gV, admitAll, List.getD_eq_getElem?_getD, h]
theorem gV_set {w : List Sv} {k : Nat} (h : k < w.length) (v : Sv) (i : Nat) : gV (w.set k v) i = if k = i then v else gV w i := by
  unfold gV
  simp only [List.getD_eq_getElem?_getD, List.getElem?_set]
  by_cases e : k = i
  · subst e; simp [h]
  · simp [e]
theorem cand_spec (n : Nat) (w : List Sv) : (cand n w = -1 ∧ ∀ k, k < n → pend (gV w k) = false) ∨ ∃ c : Nat, cand n w = c ∧ c < n ∧ pend (gV w c) = true ∧ ∀ k, k < n → pend (gV w k) = true → (gV w c).dl ≤ (gV w k).dl := by
  rcases bestF_spec (fun k => pend (gV w k)) (fun k => (gV w k).dl) n with ⟨e, h⟩ | ⟨b, e, hb, h1, h2, _⟩
  · exact .inl ⟨e, h⟩
  · exact .inr ⟨b, e, hb, h1, h2⟩
theorem go_spec (n : Nat) (L : List Job) (w : List Sv) (now : Nat) (done : List Int) : srvGo n L w now done = -1 ∨ ∃ c : Nat, srvGo n L w now done = c ∧ cand n w = c ∧ c < n ∧ pend (gV w c) = true ∧ (∀ k, k < n → pend (gV w k) = true → (gV w c).dl ≤ (gV w k).dl) ∧ (edfPick L now done = -1 ∨ (gV w c).dl < (L.getD (edfPick L now done).toNat default).D) := by
  unfold srvGo
  by_cases h : cand n w < 0 ∨ (0 ≤ edfPick L now done ∧ (L.getD (edfPick L now done).toNat default).D ≤ (gV w (cand n w).toNat).dl)
  · rw [if_pos h]; exact .inl rfl
  · rw [if_neg h]
    rcases cand_spec n w with ⟨e, _⟩ | ⟨c, e, hc, h1, h2⟩
    · exact absurd (.inl (by omega)) h
    · refine .inr ⟨c, e, e, hc, h1, h2, ?_⟩
      rw [e, Int.toNat_natCast] at h
      rcases edf_fair L now done with h3 | ⟨n, h3, _⟩
      · exact .inl h3
      · refine .inr ?_
        apply Classical.byContradiction
        intro h4
        exact h (.inr ⟨by omega, by omega⟩)
theorem st_neg {t : Nat} (h : goT X AA L t = -1) : (srvS X AA L (t + 1)).st = ⟨wT X AA L t, (srvS X AA L t).st.ch, (srvS X AA L t).st.sd⟩ ∧ (srvPick X AA L (srvS X AA L t).st t (srvS X AA L t).done).1 = edfPick L t (srvS X AA L t).done := by
  have e : srvPick X AA L (srvS X AA L t).st t (srvS X AA L t).done = (edfPick L t (srvS X AA L t).done, ⟨wT X AA L t, (srvS X AA L t).st.ch, (srvS X AA L t).st.sd⟩) := if_pos (show goT X AA L t < 0 by omega)
  rw [sim_st, e]
  exact ⟨rfl, rfl⟩
theorem st_pos {t c : Nat} (h : goT X AA L t = c) : (srvS X AA L (t + 1)).st = ⟨(wT X AA L t).set c (serve (gS X c) (gAA AA c) (gV (wT X AA L t) c)), (srvS X AA L t).st.ch.set t c,
      if ends (gAA AA c) (gV (wT X AA L t) c) = true then (srvS X AA L t).st.sd.set c ((gR (srvS X AA L t).st.sd c).set (gV (wT X AA L t) c).at_ (t + 1)) else (srvS X AA L t).st.sd⟩ ∧ (srvPick X AA L (srvS X AA L t).st t (srvS X AA L t).done).1 = -1 := by
  have e : srvPick X AA L (srvS X AA L t).st t (srvS X AA L t).done = (-1, ⟨(wT X AA L t).set (goT X AA L t).toNat (serve (gS X (goT X AA L t).toNat) (gAA AA (goT X AA L t).toNat) (gV (wT X AA L t) (goT X AA L t).toNat)), (srvS X AA L t).st.ch.set t (goT X AA L t),
      if ends (gAA AA (goT X AA L t).toNat) (gV (wT X AA L t) (goT X AA L t).toNat) = true then (srvS X AA L t).st.sd.set (goT X AA L t).toNat ((gR (srvS X AA L t).st.sd (goT X AA L t).toNat).set (gV (wT X AA L t) (goT X AA L t).toNat).at_ (t + 1)) else (srvS X AA L t).st.sd⟩) := if_neg (show ¬ goT X AA L t < 0 by omega)
  rw [sim_st, e, h]
  exact ⟨rfl, rfl⟩
theorem sv_step {t k : Nat} (hk : k < X.length) : svT X AA L (t + 1) k = if goT X AA L t = k then serve (gS X k) (gAA AA k) (admS (gS X k) (gAA AA k) t (svT X AA L t k)) else admS (gS X k) (gAA AA k) t (svT X AA L t k) := by
  have hw : gV (wT X AA L t) k = admS (gS X k) (gAA AA k) t (svT X AA L t k) := admitAll_get hk
  unfold svT at hw ⊢
  have hg := go_spec X.length L (wT X AA L t) t (srvS X AA L t).done
  change goT X AA L t = -1 ∨ ∃ c : Nat, goT X AA L t = c ∧ _ at hg
  rcases hg with e | ⟨c, e, _, hc, _⟩
  · rw [(st_neg e).1, if_neg (by omega)]; exact hw
  · rw [(st_pos e).1]
    simp only
    rw [gV_set (by rw [show (wT X AA L t).length = X.length from admitAll_len]; exact hc), e]
    by_cases h : c = k
    · subst h; rw [if_pos rfl, if_pos rfl, hw]
    · rw [if_neg h, if_neg (by omega)]; exact hw
/-- What holds of a server. -/
structure SvOk (x : Srv) (A : List Arr) (s : Sv) : Prop where
  l0 : 1 ≤ s.left
  l1 : s.left ≤ x.B
  ac : s.at_ ≤ s.came
  cl : s.came ≤ A.length
  d0 : 0 ≤ s.done
  d1 : s.done = 0 ∨ s.done < (gA A s.at_).e
  dl : 0 ≤ s.dl
theorem SvOk.comes {x : Srv} {A : List Arr} {s : Sv} {now : Int} (h : SvOk x A s) (hx : x.ok) (hn : 0 ≤ now) (hc : s.came < A.length) : SvOk x A (comes x now s) := by
  obtain ⟨h1, h2, h3, h4, h5, h6, h7⟩ := h
  unfold Srv.ok at hx
  unfold Go.Ds.comes
  split
  · exact ⟨hx.1.1, Int.le_refl _, by simp only; omega, by simp only; omega, h5, h6, by simp only; omega⟩
  · exact ⟨h1, h2, by simp only; omega, by simp only; omega, h5, h6, h7⟩
theorem SvOk.admitN {x : Srv} {A : List Arr} {now : Int} (hx : x.ok) (hn : 0 ≤ now) : ∀ (n : Nat) {s : Sv}, SvOk x A s → SvOk x A (admitN x A now n s)
  | 0, _, h => h
  | n + 1, s, h => by
    unfold Go.Ds.admitN
    split
    · rename_i hc; exact SvOk.admitN hx hn n (h.comes hx hn hc.1)
    · exact h
theorem SvOk.admS {x : Srv} {A : List Arr} {now : Int} {s : Sv} (h : SvOk x A s) (hx : x.ok) (hn : 0 ≤ now) : SvOk x A (admS x A now s) := h.admitN hx hn _
theorem gA_mem {A : List Arr} {k : Nat} (h : k < A.length) : gA A k = A[k] := by simp [gA, List.getD_eq_getElem?_getD, h]
theorem gA_ok {A : List Arr} (hA : arrLegal A) {k : Nat} (h : k < A.length) : (0 ≤ (gA A k).t ∧ (gA A k).t ≤ 119) ∧ 1 ≤ (gA A k).e ∧ (gA A k).e ≤ 20 := by
  rw [gA_mem h]; exact ⟨(hA.2 k h).1, (hA.2 k h).2.1⟩
theorem SvOk.serve {x : Srv} {A : List Arr} {s : Sv} (h : SvOk x A s) (hx : x.ok) (hp : pend s = true) : SvOk x A (serve x A s) := by
  have hp := of_decide_eq_true hp
  obtain ⟨h1, h2, h3, h4, h5, h6, h7⟩ := h
  unfold Srv.ok at hx
  unfold Go.Ds.serve
  refine ⟨?_, ?_, ?_, h4, ?_, ?_, ?_⟩
  · simp only; split <;> omega
  · simp only; split <;> omega
  · simp only; split <;> omega
  · simp only; split <;> omega
  · simp only
    cases he : ends A s
    · refine .inr ?_
      have := of_decide_eq_false he
      simp only [Bool.false_eq_true, if_false]; omega
    · exact .inl rfl
  · simp only; split <;> omega
theorem gS_ok (hX : srvOk X) {k : Nat} (hk : k < X.length) : (gS X k).ok := by
  rw [show gS X k = X[k] by simp [gS, List.getD_eq_getElem?_getD, hk]]
  exact hX.2 _ (List.getElem_mem hk)
theorem sv_zero {k : Nat} (hk : k < X.length) : svT X AA L 0 k = sv0 (gS X k) := by
  show gV (X.map sv0) k = _
  simp [gV, gS, List.getD_eq_getElem?_getD, hk]
theorem sv_ok (hX : srvOk X) {k : Nat} (hk : k < X.length) : ∀ t : Nat, SvOk (gS X k) (gAA AA k) (svT X AA L t k)
  | 0 => by
    have hx := gS_ok hX hk
    unfold Srv.ok at hx
    rw [sv_zero hk]
    exact ⟨hx.1.1, Int.le_refl _, Nat.le_refl _, Nat.zero_le _, Int.le_refl _, .inl rfl, Int.le_refl _⟩
  | t + 1 => by
    have ih := sv_ok hX hk t
    have hx := gS_ok hX hk
    have ha := ih.admS hx (now := t) (by omega)
    rw [sv_step hk]
    split
    · rename_i e
      refine ha.serve hx ?_
      have hg := go_spec X.length L (wT X AA L t) t (srvS X AA L t).done
      change goT X AA L t = -1 ∨ ∃ c : Nat, goT X AA L t = c ∧ _ at hg
      rcases hg with e2 | ⟨c, e2, _, hc, hp, _⟩
      · omega
      · obtain rfl : c = k := by omega
        rw [show gV (wT X AA L t) c = admS (gS X c) (gAA AA c) t (svT X AA L t c) from admitAll_get hk] at hp
        exact hp
    · exact ha
end
end Go.Ds
