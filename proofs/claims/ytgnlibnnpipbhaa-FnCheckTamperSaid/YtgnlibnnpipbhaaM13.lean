/- The plain law: checking a schedule. Definitions in plain Lean; no program in sight. -/
import Derived.Test.YtgnlibnnpipbhaaM11
namespace Go.Ds

/-- A job is late at the end of a tick. -/
def lateNow (L : List Job) (now : Nat) (done : List Int) : Bool := (List.range L.length).any fun i => decide ((L.getD i default).D = now + 1 ∧ gI done i < (L.getD i default).E)
def tickDone (done : List Int) (e : Int) : List Int := if 0 ≤ e then done.set e.toNat (gI done e + 1) else done
/-- What the checker says of a tick. -/
def chkCode (L : List Job) (now : Nat) (done : List Int) (e : Int) : Int :=
  if e ≠ -1 ∧ ¬ ((0 ≤ e ∧ e ≤ (L.length : Int) - 1) ∧ readyJ L done now e.toNat = true) then 3
  else if e = -1 ∧ 0 ≤ edfPick L now done then 4
  else if 0 ≤ e ∧ (L.getD (edfPick L now done).toNat default).D < (L.getD e.toNat default).D then 5
  else if lateNow L now (tickDone done e) = true then 6 else 0
def chkDone (L : List Job) (run : List Int) : Nat → List Int
  | 0 => List.replicate L.length 0
  | k + 1 => tickDone (chkDone L run k) (gI run k)
def codeAt (L : List Job) (run : List Int) (k : Nat) : Int := chkCode L k (chkDone L run k) (gI run k)

/-- What the checker answers. -/
def ChkP (L : List Job) (run : List Int) (c a : Int) : Prop := (c = 0 ∧ a = 0 ∧ ∀ t, t < 120 → codeAt L run t = 0) ∨ ∃ t : Nat, t < 120 ∧ c = codeAt L run t ∧ c ≠ 0 ∧ a = t ∧ ∀ u, u < t → codeAt L run u = 0
theorem ChkP.same {L : List Job} {run : List Int} {c a c' a' : Int} (h : ChkP L run c a) (h' : ChkP L run c' a') : c = c' ∧ a = a' := by
  rcases h with ⟨h1, h2, h3⟩ | ⟨t, h1, h2, h3, h4, h5⟩ <;> rcases h' with ⟨g1, g2, g3⟩ | ⟨u, g1, g2, g3, g4, g5⟩
  · omega
  · exact absurd (g2.trans (h3 u g1)) g3
  · exact absurd (h2.trans (g3 t h1)) h3
  · rcases Nat.lt_trichotomy t u with h | h | h
    · exact absurd (h2.trans (g5 t h)) h3
    · subst h; exact ⟨by omega, by omega⟩
    · exact absurd (g2.trans (h5 u h)) g3
/-- The whole answer. -/
def ChkR (S : List Task) (L : List Job) (run : List Int) (c a : Int) : Prop := (¬ jobsLegal S L ∧ c = 1 ∧ a = 0) ∨ (jobsLegal S L ∧ run.length ≠ 120 ∧ c = 2 ∧ a = 0) ∨ (jobsLegal S L ∧ run.length = 120 ∧ ChkP L run c a)
theorem ChkR.same {S : List Task} {L : List Job} {run : List Int} {c a c' a' : Int} (h : ChkR S L run c a) (h' : ChkR S L run c' a') : c = c' ∧ a = a' := by
  rcases h with ⟨h1, h2, h3⟩ | ⟨h1, h2, h3, h4⟩ | ⟨h1, h2, h3⟩ <;> rcases h' with ⟨g1, g2, g3⟩ | ⟨g1, g2, g3, g4⟩ | ⟨g1, g2, g3⟩
  · exact ⟨by omega, by omega⟩
  · exact absurd g1 h1
  · exact absurd g1 h1
  · exact absurd h1 g1
  · exact ⟨by omega, by omega⟩
  · exact absurd g2 h2
  · exact absurd h1 g1
  · exact absurd h2 g2
  · exact h3.same g3

theorem chkCode_range (L : List Job) (now : Nat) (done : List Int) (e : Int) : chkCode L now done e = 0 ∨ (3 ≤ chkCode L now done e ∧ chkCode L now done e ≤ 6) := by
  unfold chkCode
  split
  · omega
  · split
    · omega
    · split
      · omega
      · split <;> omega
theorem ChkR.range {S : List Task} {L : List Job} {run : List Int} {c a : Int} (h : ChkR S L run c a) : (c = 0 ∨ (1 ≤ c ∧ c ≤ 6)) ∧ 0 ≤ a ∧ a < 120 ∧ (c = 0 → a = 0) := by
  rcases h with ⟨h1, h2, h3⟩ | ⟨h1, h2, h3, h4⟩ | ⟨h1, h2, ⟨h3, h4, h5⟩ | ⟨t, h3, h4, h5, h6, h7⟩⟩
  · omega
  · omega
  · omega
  · have : c = chkCode _ _ _ _ := h4
    rcases chkCode_range L t (chkDone L run t) (gI run t) with e | e <;> omega

theorem chkDone_length (L : List Job) (run : List Int) : ∀ k, (chkDone L run k).length = L.length
  | 0 => by simp [chkDone]
  | k + 1 => by
    simp only [chkDone, tickDone]
    split
    · rw [List.length_set]; exact chkDone_length L run k
    · exact chkDone_length L run k

theorem lateNow_iff {L : List Job} {now : Nat} {done : List Int} : lateNow L now done = true ↔ ∃ i, i < L.length ∧ (L.getD i default).D = now + 1 ∧ gI done i < (L.getD i default).E := by
  unfold lateNow
  simp only [List.any_eq_true, List.mem_range, decide_eq_true_eq]

/-- The checker over a run of earliest deadline first. -/
theorem chk_edf {L : List Job} : ∀ k, k ≤ 120 → chkDone L (simU L (edfPick L) 120).run k = (simU L (edfPick L) k).done
  | 0, _ => rfl
  | k + 1, h => by
    have ih := chk_edf (L := L) k (by omega)
    simp only [chkDone]
    rw [ih, simU_at (show k < 120 by omega)]
    unfold tickDone
    rcases edf_fair L k (simU L (edfPick L) k).done with e | ⟨n, e, hn, _⟩
    · rw [simU_done_neg (by omega), if_neg (by omega)]
    · rw [simU_done_pos e, e, if_pos (by omega)]; simp
theorem code_edf {L : List Job} {k : Nat} (h : k < 120) : codeAt L (simU L (edfPick L) 120).run k = if lateNow L k (simU L (edfPick L) (k + 1)).done = true then 6 else 0 := by
  have e1 := chk_edf (L := L) k (by omega)
  have e2 := chk_edf (L := L) (k + 1) (by omega)
  simp only [chkDone] at e2
  unfold codeAt chkCode
  rw [e2, e1, simU_at h]
  rcases edf_fair L k (simU L (edfPick L) k).done with e | ⟨n, e, hn, hr⟩
  · rw [e, if_neg (fun g => g.1 rfl), if_neg (fun g => by have := g.2; omega), if_neg (fun g => by have := g.1; omega)]
  · rw [e, if_neg, if_neg (fun g => by have := g.1; omega), if_neg (fun g => by have := g.2; omega)]
    rintro ⟨_, g⟩
    exact g ⟨by omega, by simpa using hr⟩

theorem jl_E {S : List Task} {L : List Job} (h : jobsLegal S L) : ∀ j ∈ L, 1 ≤ j.E := fun _ hj => (h.2.1.mem hj).2.2.1
theorem jl_R {S : List Task} {L : List Job} (h : jobsLegal S L) : ∀ j ∈ L, 0 ≤ j.R := fun _ hj => (h.2.1.mem hj).2.1.1
theorem jl_D {S : List Task} {L : List Job} (h : jobsLegal S L) : ∀ j ∈ L, 1 ≤ j.D ∧ j.D ≤ 131 := fun j hj => by
  have h1 := h.2.1.mem hj
  have h2 := h.2.2.2 j hj
  have h3 := gT_ok h.1 h1.1.1 h1.1.2
  unfold Task.ok at h3
  omega

/-- The simulated schedule is accepted if and only if nothing is missed. -/
theorem chk_edf_iff {S : List Task} {L : List Job} (h : jobsLegal S L) {c a : Int} (hc : ChkR S L (simU L (edfPick L) 120).run c a) : (c = 0 ↔ missedL L (simU L (edfPick L) 120).fin = []) ∧ (c = 0 ∨ c = 6) := by
  have hlen := (simU_lens (L := L) (pick := edfPick L) 120).2.2
  rcases hc with ⟨h1, _⟩ | ⟨_, h2, _⟩ | ⟨_, _, hP⟩
  · exact absurd h h1
  · exact absurd hlen h2
  have hE := jl_E h
  have gm : ∀ i, i < L.length → L.getD i default ∈ L := fun i hi => by
    rw [show L.getD i default = L[i] from by simp [List.getD_eq_getElem?_getD, hi]]
    exact List.getElem_mem hi
  have key : (∀ t, t < 120 → codeAt L (simU L (edfPick L) 120).run t = 0) ↔ missedL L (simU L (edfPick L) 120).fin = [] := by
    rw [missed_nil]
    constructor
    · intro hall i hi
      cases hl : lateAt L (simU L (edfPick L) 120).fin i with
      | false => rfl
      | true =>
        exfalso
        have hD := jl_D h _ (gm i hi)
        obtain ⟨h1, h2⟩ := (late_iff (edf_fair L) hE hi (by omega)).1 hl
        have hk := hall ((L.getD i default).D.toNat - 1) (by omega)
        rw [code_edf (by omega), show (L.getD i default).D.toNat - 1 + 1 = (L.getD i default).D.toNat by omega] at hk
        split at hk
        · cases hk
        · rename_i hn
          exact hn (lateNow_iff.2 ⟨i, hi, by omega, h2⟩)
    · intro hall t ht
      rw [code_edf ht]
      split
      · rename_i hl
        exfalso
        obtain ⟨i, hi, h1, h2⟩ := lateNow_iff.1 hl
        have := hall i hi
        rw [(late_iff (edf_fair L) hE hi (by omega)).2 ⟨by omega, by
          rw [show (L.getD i default).D.toNat = t + 1 by omega]; exact h2⟩] at this
        cases this
      · rfl
  rcases hP with ⟨h1, h2, h3⟩ | ⟨t, h1, h2, h3, h4, h5⟩
  · exact ⟨⟨fun _ => key.1 h3, fun _ => h1⟩, .inl h1⟩
  · have h6 : c = 6 := by
      rw [code_edf h1] at h2
      split at h2
      · exact h2
      · exact absurd h2 h3
    refine ⟨⟨fun h0 => absurd h0 h3, fun hm => ?_⟩, .inr h6⟩
    exact h2.trans (key.2 hm t h1)

/-- A tick that idles though a job is ready is found. -/
theorem chk_tamper {S : List Task} {L : List Job} (h : jobsLegal S L) {a : Int} (hc : ChkR S L (simU L (edfPick L) 120).run 0 a) {t : Nat} (ht : t < 120) (hr : 0 ≤ gI (simU L (edfPick L) 120).run t) {c b : Int} (hd : ChkR S L ((simU L (edfPick L) 120).run.set t (-1)) c b) : c = 4 ∧ b = t := by
  have hlen := (simU_lens (L := L) (pick := edfPick L) 120).2.2
  have hall : ∀ u, u < 120 → codeAt L (simU L (edfPick L) 120).run u = 0 := by
    rcases hc with ⟨h1, _⟩ | ⟨_, h2, _⟩ | ⟨_, _, ⟨_, _, h3⟩ | ⟨u, h1, h2, h3, _⟩⟩
    · exact absurd h h1
    · exact absurd hlen h2
    · exact h3
    · exact absurd rfl h3
  have hsame : ∀ u, u ≤ t → chkDone L ((simU L (edfPick L) 120).run.set t (-1)) u = chkDone L (simU L (edfPick L) 120).run u := by
    intro u
    induction u with
    | zero => intro _; rfl
    | succ u ih =>
      intro hu
      simp only [chkDone]
      rw [ih (by omega), gI_set (by omega), if_neg (by omega)]
  have hcode : ∀ u, u < t → codeAt L ((simU L (edfPick L) 120).run.set t (-1)) u = 0 := by
    intro u hu
    unfold codeAt
    rw [hsame u (by omega), gI_set (by omega), if_neg (by omega)]
    exact hall u (by omega)
  have h4 : codeAt L ((simU L (edfPick L) 120).run.set t (-1)) t = 4 := by
    unfold codeAt chkCode
    rw [hsame t (Nat.le_refl _), gI_set (by omega), if_pos rfl, chk_edf t (by omega), if_neg (fun g => g.1 rfl), if_pos]
    refine ⟨rfl, ?_⟩
    rw [simU_at ht] at hr; exact hr
  have hP : ChkP L ((simU L (edfPick L) 120).run.set t (-1)) 4 t := .inr ⟨t, ht, h4.symm, by omega, rfl, hcode⟩
  rcases hd with ⟨h1, _⟩ | ⟨_, h2, _⟩ | ⟨_, _, h3⟩
  · exact absurd h h1
  · rw [List.length_set] at h2; exact absurd hlen h2
  · exact h3.same hP

/-- What an accepted schedule keeps. -/
theorem chk_inv {L : List Job} {run : List Int} (hl : run.length = 120) (hE : ∀ j ∈ L, 1 ≤ j.E) (hall : ∀ t, t < 120 → codeAt L run t = 0) {i : Nat} (hi : i < L.length) : ∀ k, k ≤ 120 →
    gI (chkDone L run k) i = ((run.take k).count (i : Int) : Int) ∧ gI (chkDone L run k) i ≤ (L.getD i default).E ∧ ((k : Int) ≤ (L.getD i default).R → gI (chkDone L run k) i = 0)
  | 0, _ => by
    have : 1 ≤ (L.getD i default).E := hE _ (by
      rw [show L.getD i default = L[i] from by simp [List.getD_eq_getElem?_getD, hi]]
      exact List.getElem_mem hi)
    have h0 : gI (chkDone L run 0) i = 0 := gI_rep _ _ _ hi
    rw [h0]
    exact ⟨rfl, by omega, fun _ => rfl⟩
  | k + 1, hk => by
    obtain ⟨h1, h2, h3⟩ := chk_inv hl hE hall hi k (by omega)
    have hc := hall k (by omega)
    have hkr : k < run.length := by omega
    have hg : gI run k = run[k] := gI_row' hkr
    have hlen := chkDone_length L run k
    unfold codeAt chkCode at hc
    rw [List.take_succ_eq_append_getElem hkr, List.count_append, ← hg]
    simp only [chkDone]
    generalize gI run k = e at hc ⊢
    split at hc
    · cases hc
    · rename_i hok
      by_cases he : e = -1
      · subst he
        unfold tickDone
        rw [if_neg (by omega), show List.count (i : Int) [(-1 : Int)] = 0 from by rw [List.count_eq_zero]; simp <;> omega]
        exact ⟨by omega, h2, fun h => h3 (by omega)⟩
      · have hok2 : (0 ≤ e ∧ e ≤ (L.length : Int) - 1) ∧ readyJ L (chkDone L run k) k e.toNat = true := by
          apply Classical.byContradiction
          intro hno; exact hok ⟨he, hno⟩
        obtain ⟨n, rfl⟩ := Int.eq_ofNat_of_zero_le hok2.1.1
        have hr := hok2.2
        simp only [Int.toNat_natCast, readyJ, decide_eq_true_eq] at hr
        unfold tickDone
        rw [if_pos (by omega), Int.toNat_natCast, gI_set (by omega)]
        by_cases hni : n = i
        · subst hni
          rw [if_pos rfl, show List.count (n : Int) [(n : Int)] = 1 from by simp]
          exact ⟨by omega, by omega, fun h => by omega⟩
        · rw [if_neg hni, show List.count (i : Int) [(n : Int)] = 0 from by rw [List.count_eq_zero]; simp <;> omega]
          exact ⟨by omega, h2, fun h => h3 (by omega)⟩

theorem chk_sound {S : List Task} {L : List Job} {run : List Int} {a : Int} (hc : ChkR S L run 0 a) : run.length = 120 ∧ jobsLegal S L ∧ a = 0 ∧ ∀ i, i < L.length → ((L.getD i default).D ≤ 120 → ((run.take (L.getD i default).D.toNat).count (i : Int) : Int) = (L.getD i default).E) ∧ ((run.take (L.getD i default).R.toNat).count (i : Int) : Int) = 0 := by
  rcases hc with ⟨_, h2, _⟩ | ⟨_, _, h3, _⟩ | ⟨h, hl, ⟨_, h2, hall⟩ | ⟨t, h1, h2, h3, _⟩⟩
  · cases h2
  · cases h3
  · refine ⟨hl, h, h2, fun i hi => ?_⟩
    have hE := jl_E h
    have gm : L.getD i default ∈ L := by
      rw [show L.getD i default = L[i] from by simp [List.getD_eq_getElem?_getD, hi]]
      exact List.getElem_mem hi
    have hD := jl_D h _ gm
    have hR := (h.2.1.mem gm).2.1
    constructor
    · intro hd
      obtain ⟨h1, h2, _⟩ := chk_inv hl hE hall hi (L.getD i default).D.toNat (by omega)
      rw [← h1]
      have hk := hall ((L.getD i default).D.toNat - 1) (by omega)
      unfold codeAt chkCode at hk
      split at hk
      · cases hk
      · split at hk
        · cases hk
        · split at hk
          · cases hk
          · split at hk
            · cases hk
            · rename_i hn
              apply Classical.byContradiction
              intro hne
              refine hn (lateNow_iff.2 ⟨i, hi, by omega, ?_⟩)
              have e : chkDone L run (L.getD i default).D.toNat = tickDone (chkDone L run ((L.getD i default).D.toNat - 1)) (gI run ((L.getD i default).D.toNat - 1 : Nat)) := by
                conv => lhs; rw [show (L.getD i default).D.toNat = (L.getD i default).D.toNat - 1 + 1 by omega]
                rfl
              rw [← e]; omega
    · obtain ⟨h1, _, h3⟩ := chk_inv hl hE hall hi (L.getD i default).R.toNat (by omega)
      rw [← h1]; exact h3 (by omega)
  · exact absurd rfl h3
end Go.Ds
