/- The plain law: what a simulated schedule keeps. Definitions in plain Lean; no program in sight. -/
import Derived.Test.YtgnlibnnpipbhaaM5
namespace Go.Ds

/-- A picker that takes only jobs that are ready. -/
def Fair (L : List Job) (pick : Nat → List Int → Int) : Prop := ∀ now done, pick now done = -1 ∨ ∃ n : Nat, pick now done = n ∧ n < L.length ∧ readyJ L done now n = true

theorem best_fair {L : List Job} {ok : Nat → Bool} {key : Nat → Int} {now : Nat} {done : List Int} (h : ∀ i, ok i = true → readyJ L done now i = true) : bestF L.length ok key = -1 ∨ ∃ n : Nat, bestF L.length ok key = n ∧ n < L.length ∧ readyJ L done now n = true := by
  rcases bestF_spec ok key L.length with ⟨e, _⟩ | ⟨k, e, hk, hok, _⟩
  · exact .inl e
  · exact .inr ⟨k, e, hk, h k hok⟩

theorem edf_fair (L : List Job) : Fair L (edfPick L) := fun now done => best_fair fun _ h => h

theorem Fair.lt {L : List Job} {pick : Nat → List Int → Int} (h : Fair L pick) (now : Nat) (done : List Int) : -1 ≤ pick now done ∧ pick now done < L.length := by
  rcases h now done with e | ⟨n, e, hn, _⟩ <;> omega

/-- How often a number stands in a row. -/
def countI (x : Int) (l : List Int) : Nat := l.count x

section
variable {L : List Job} {pick : Nat → List Int → Int}
theorem simU_lens (n : Nat) : (simU L pick n).done.length = L.length ∧ (simU L pick n).fin.length = L.length ∧ (simU L pick n).run.length = n := sim_lens (L := L) (pick := fun _ now done => (pick now done, ())) (s0 := ()) n

theorem simU_succ (n : Nat) : simU L pick (n + 1) = tick L (fun _ now done => (pick now done, ())) n (simU L pick n) := rfl

theorem simU_run (n : Nat) : (simU L pick (n + 1)).run = (simU L pick n).run ++ [pick n (simU L pick n).done] := sim_run_succ (L := L) (pick := fun _ now done => (pick now done, ())) (s0 := ()) n

/-- What ran in tick t. -/
theorem simU_at {n t : Nat} (h : t < n) : gI (simU L pick n).run t = pick t (simU L pick t).done := by
  induction n with
  | zero => omega
  | succ n ih =>
    have hl := (simU_lens (L := L) (pick := pick) n).2.2
    rw [simU_run]
    unfold gI at ih ⊢
    simp only [Int.toNat_natCast, List.getD_eq_getElem?_getD] at ih ⊢
    rcases Nat.lt_succ_iff_lt_or_eq.1 h with h' | rfl
    · rw [List.getElem?_append_left (by omega)]; exact ih h'
    · rw [List.getElem?_append_right (by omega), hl]; simp

/-- What a run keeps, of job i, after k ticks. -/
structure RunInv (L : List Job) (pick : Nat → List Int → Int) (k i : Nat) : Prop where
  pos : 0 ≤ gI (simU L pick k).done i
  le : gI (simU L pick k).done i ≤ (L.getD i default).E
  cnt : ((simU L pick k).run.count (i : Int) : Int) = gI (simU L pick k).done i
  fin : (gI (simU L pick k).fin i = -1 ∧ gI (simU L pick k).done i < (L.getD i default).E) ∨
    ∃ f : Nat, gI (simU L pick k).fin i = f ∧ 1 ≤ f ∧ f ≤ k ∧ gI (simU L pick k).done i = (L.getD i default).E ∧ gI (simU L pick k).run ((f - 1 : Nat) : Int) = i ∧ ∀ t : Nat, f ≤ t → t < k → gI (simU L pick k).run t ≠ i

theorem gI_app {l : List Int} {x : Int} {t : Nat} (h : t < l.length) : gI (l ++ [x]) t = gI l t := by
  unfold gI
  simp only [Int.toNat_natCast, List.getD_eq_getElem?_getD]
  rw [List.getElem?_append_left h]
theorem gI_last {l : List Int} {x : Int} {t : Nat} (h : l.length = t) : gI (l ++ [x]) t = x := by
  unfold gI
  simp only [Int.toNat_natCast, List.getD_eq_getElem?_getD]
  rw [List.getElem?_append_right (by omega)]; simp [h]

theorem runInv (hf : Fair L pick) (hE : ∀ j ∈ L, 1 ≤ j.E) : ∀ (k i : Nat), i < L.length → RunInv L pick k i
  | 0, i, hi => by
    have hEi : 1 ≤ (L.getD i default).E := by
      rw [show L.getD i default = L[i] from by simp [List.getD_eq_getElem?_getD, hi]]
      exact hE _ (List.getElem_mem hi)
    have h0 : gI (simU L pick 0).done i = 0 := gI_rep _ _ _ hi
    have h1 : gI (simU L pick 0).fin i = -1 := gI_rep _ _ _ hi
    refine ⟨by omega, by omega, ?_, .inl ⟨h1, by omega⟩⟩
    rw [h0]; rfl
  | k + 1, i, hi => by
    have ih := runInv hf hE k i hi
    obtain ⟨l1, l2, l3⟩ := simU_lens (L := L) (pick := pick) k
    have hrun := simU_run (L := L) (pick := pick) k
    have hstep := simU_succ (L := L) (pick := pick) k
    obtain ⟨p1, p2, p3, p4⟩ := ih
    rcases hf k (simU L pick k).done with e | ⟨n, e, hn, hrd⟩
    · have hd : (simU L pick (k + 1)).done = (simU L pick k).done ∧ (simU L pick (k + 1)).fin = (simU L pick k).fin := by rw [hstep]; simp [tick, e]
      rw [e] at hrun
      refine ⟨by rw [hd.1]; exact p1, by rw [hd.1]; exact p2, ?_, ?_⟩
      · rw [hd.1, hrun, List.count_append, ← p3]
        rw [show List.count (i : Int) [-1] = 0 from by rw [List.count_eq_zero]; simp <;> omega]; try rfl
      · rw [hd.1, hd.2, hrun]
        rcases p4 with h | ⟨f, q1, q2, q3, q4, q5, q6⟩
        · exact .inl h
        · refine .inr ⟨f, q1, q2, by omega, q4, ?_, fun t h1 h2 => ?_⟩
          · rw [gI_app (by omega)]; exact q5
          · rcases Nat.lt_succ_iff_lt_or_eq.1 h2 with h' | rfl
            · rw [gI_app (by omega)]; exact q6 t h1 h'
            · rw [gI_last l3]; omega
    · rw [e] at hrun
      have hneg : ¬ (n : Int) < 0 := by omega
      have hd : (simU L pick (k + 1)).done = (simU L pick k).done.set n (gI (simU L pick k).done n + 1) ∧ (simU L pick (k + 1)).fin = if gI (simU L pick k).done n + 1 = (L.getD n default).E then (simU L pick k).fin.set n (k + 1) else (simU L pick k).fin := by
        rw [hstep]; simp [tick, e, hneg]
      simp only [readyJ, decide_eq_true_eq] at hrd
      have hdi : gI (simU L pick (k + 1)).done i = if n = i then gI (simU L pick k).done n + 1 else gI (simU L pick k).done i := by rw [hd.1, gI_set (by omega)]
      by_cases hni : n = i
      · subst hni
        rw [if_pos rfl] at hdi
        have hcnt : ((simU L pick (k + 1)).run.count (n : Int) : Int) = gI (simU L pick k).done n + 1 := by
          rw [hrun, List.count_append, ← p3]; simp
        refine ⟨by omega, by omega, by omega, ?_⟩
        by_cases hfin : gI (simU L pick k).done n + 1 = (L.getD n default).E
        · refine .inr ⟨k + 1, ?_, by omega, by omega, by omega, ?_, fun t h1 h2 => by omega⟩
          · rw [hd.2, if_pos hfin, gI_set (by omega), if_pos rfl]; rfl
          · rw [hrun, Nat.add_sub_cancel, gI_last l3]
        · refine .inl ⟨?_, by omega⟩
          rw [hd.2, if_neg hfin]
          rcases p4 with h | ⟨f, q1, q2, q3, q4, _⟩
          · exact h.1
          · omega
      · rw [if_neg hni] at hdi
        have hfi : gI (simU L pick (k + 1)).fin i = gI (simU L pick k).fin i := by
          rw [hd.2]; split
          · rw [gI_set (by omega), if_neg hni]
          · rfl
        refine ⟨by omega, by omega, ?_, ?_⟩
        · rw [hdi, hrun, List.count_append, ← p3]
          rw [show List.count (i : Int) [(n : Int)] = 0 from by rw [List.count_eq_zero]; simp <;> omega]; try rfl
        · rw [hdi, hfi, hrun]
          rcases p4 with h | ⟨f, q1, q2, q3, q4, q5, q6⟩
          · exact .inl h
          · refine .inr ⟨f, q1, q2, by omega, q4, ?_, fun t h1 h2 => ?_⟩
            · rw [gI_app (by omega)]; exact q5
            · rcases Nat.lt_succ_iff_lt_or_eq.1 h2 with h' | rfl
              · rw [gI_app (by omega)]; exact q6 t h1 h'
              · rw [gI_last l3]; omega
end
end Go.Ds
