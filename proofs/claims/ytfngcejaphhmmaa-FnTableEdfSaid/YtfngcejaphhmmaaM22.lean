import Derived.Test.YtfngcejaphhmmaaM21
namespace Go.Ds
def Busy (L : List Job) (pick : Nat → List Int → Int) : Prop := ∀ now done, pick now done = -1 → ∀ i, i < L.length → readyJ L done now i = false
theorem best_busy {L : List Job} {key : Nat → Int} {now : Nat} {done : List Int} (h : bestF L.length (readyJ L done now) key = -1) : ∀ i, i < L.length → readyJ L done now i = false := by
  rcases bestF_spec (readyJ L done now) key L.length with ⟨_, h1⟩ | ⟨k, e, _⟩
  · exact h1
  · omega
theorem edf_busy (L : List Job) : Busy L (edfPick L) := fun now done h => best_busy h
def relW (L : List Job) (k : Nat) (i : Nat) : Int := if (L.getD i default).R ≤ k then (L.getD i default).E else 0
def doneW (L : List Job) (done : List Int) : Int := sumI (fun i => gI done i) L.length
section
variable {L : List Job} {pick : Nat → List Int → Int}
theorem idle_iff (hf : Fair L pick) (hb : Busy L pick) (hE : ∀ j ∈ L, 1 ≤ j.E) (k : Nat) : pick k (simU L pick k).done = -1 ↔ doneW L (simU L pick k).done = sumI (relW L k) L.length := by
  have hr := reach hf hE k
  have hle : ∀ i, i < L.length → gI (simU L pick k).done i ≤ relW L k i := fun i hi => by
    have := hr i hi
    unfold relW
    split
    · exact this.1.2
    · rename_i h1
      rcases Int.lt_or_le 0 (gI (simU L pick k).done i) with h2 | h2
      · exact absurd (this.2 h2) h1
      · exact h2
  constructor
  · intro h
    refine sumI_congr fun i hi => ?_
    have h1 := hb _ _ h i hi
    have h2 := hr i hi
    unfold readyJ at h1
    simp only [decide_eq_false_iff_not] at h1
    unfold relW
    split
    · omega
    · have := hle i hi
      unfold relW at this
      rw [if_neg (by assumption)] at this
      omega
  · intro h
    rcases hf k (simU L pick k).done with e | ⟨n, e, hn, hrd⟩
    · exact e
    · have h1 : gI (simU L pick k).done n < relW L k n := by
        unfold readyJ at hrd
        simp only [decide_eq_true_eq] at hrd
        unfold relW
        rw [if_pos hrd.1]; exact hrd.2
      have := sumI_lt hle hn h1
      unfold doneW at h
      omega
theorem doneW_step (hf : Fair L pick) (k : Nat) : doneW L (simU L pick (k + 1)).done = doneW L (simU L pick k).done + if pick k (simU L pick k).done = -1 then 0 else 1 := by
  have hl := (simU_lens (L := L) (pick := pick) k).1
  rcases hf k (simU L pick k).done with e | ⟨n, e, hn, _⟩
  · have hd : (simU L pick (k + 1)).done = (simU L pick k).done := by rw [simU_succ]; simp [tick, e]
    rw [hd, if_pos e]; omega
  · have hd : (simU L pick (k + 1)).done = (simU L pick k).done.set n (gI (simU L pick k).done n + 1) := by
      rw [simU_succ]; simp [tick, e, show ¬ (n : Int) < 0 by omega]
    rw [hd, if_neg (by omega)]
    unfold doneW
    rw [sumI_one (f := fun i => gI (simU L pick k).done i) (j := n) (fun i hi => by
      rw [gI_set (by omega)]
      by_cases h : n = i
      · subst h; rw [if_pos rfl, if_pos rfl]
      · rw [if_neg h, if_neg (fun h' => h h'.symm)]; omega), if_pos hn]
end
def running (L : List Job) (done : List Int) (i : Nat) : Prop := 0 < gI done i ∧ gI done i < (L.getD i default).E
end Go.Ds
