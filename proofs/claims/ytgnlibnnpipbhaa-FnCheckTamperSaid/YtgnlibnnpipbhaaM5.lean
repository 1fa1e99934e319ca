/- The plain law: simulated schedules. Definitions in plain Lean; no program in sight. -/
import Derived.Test.YtgnlibnnpipbhaaM3
namespace Go.Ds

/-- The first of those that may, with the least key. -/
def bestF (n : Nat) (ok : Nat → Bool) (key : Nat → Int) : Int := (List.range n).foldl (fun b i => if ok i = true ∧ (b < 0 ∨ key i < key b.toNat) then (i : Int) else b) (-1)

theorem bestF_succ (n : Nat) (ok : Nat → Bool) (key : Nat → Int) : bestF (n + 1) ok key = if ok n = true ∧ (bestF n ok key < 0 ∨ key n < key (bestF n ok key).toNat) then (n : Int) else bestF n ok key := by
  simp only [bestF, List.range_succ, List.foldl_append, List.foldl_cons, List.foldl_nil]
  rfl

/-- What the best one is. -/
theorem bestF_spec (ok : Nat → Bool) (key : Nat → Int) : ∀ n, (bestF n ok key = -1 ∧ ∀ i, i < n → ok i = false) ∨
    ∃ k : Nat, bestF n ok key = k ∧ k < n ∧ ok k = true ∧ (∀ i, i < n → ok i = true → key k ≤ key i) ∧ ∀ i, i < k → ok i = true → key k < key i
  | 0 => .inl ⟨rfl, fun i h => by omega⟩
  | n + 1 => by
    rw [bestF_succ]
    rcases bestF_spec ok key n with ⟨e, h⟩ | ⟨k, e, hk, hok, h1, h2⟩
    · by_cases hn : ok n = true
      · rw [if_pos ⟨hn, .inl (by omega)⟩]
        refine .inr ⟨n, rfl, by omega, hn, fun i hi hoi => ?_, fun i hi hoi => ?_⟩
        · rcases Nat.lt_succ_iff_lt_or_eq.1 hi with h' | rfl
          · rw [h i h'] at hoi; cases hoi
          · exact Int.le_refl _
        · rw [h i hi] at hoi; cases hoi
      · rw [if_neg (fun hh => hn hh.1)]
        refine .inl ⟨e, fun i hi => ?_⟩
        rcases Nat.lt_succ_iff_lt_or_eq.1 hi with h' | rfl
        · exact h i h'
        · simpa using hn
    · by_cases hn : ok n = true ∧ key n < key k
      · rw [if_pos ⟨hn.1, .inr (by rw [e]; exact hn.2)⟩]
        refine .inr ⟨n, rfl, by omega, hn.1, fun i hi hoi => ?_, fun i hi hoi => ?_⟩
        · rcases Nat.lt_succ_iff_lt_or_eq.1 hi with h' | rfl
          · have := h1 i h' hoi; omega
          · exact Int.le_refl _
        · have := h1 i hi hoi; omega
      · have hn' : ¬ (ok n = true ∧ (bestF n ok key < 0 ∨ key n < key (bestF n ok key).toNat)) := by
          rintro ⟨g1, g2 | g2⟩
          · omega
          · rw [e] at g2; exact hn ⟨g1, g2⟩
        rw [if_neg hn']
        refine .inr ⟨k, e, by omega, hok, fun i hi hoi => ?_, h2⟩
        rcases Nat.lt_succ_iff_lt_or_eq.1 hi with h' | rfl
        · exact h1 i h' hoi
        · have : ¬ key i < key k := fun h => hn ⟨hoi, h⟩
          omega

theorem bestF_range (ok : Nat → Bool) (key : Nat → Int) (n : Nat) : -1 ≤ bestF n ok key ∧ bestF n ok key < n := by
  rcases bestF_spec ok key n with ⟨e, _⟩ | ⟨k, e, hk, _⟩ <;> omega

/-- A simulation: what the picker remembers; how many ticks each job has run; what ran in each tick; when each job finished. -/
structure Sch (ι : Type) where
  st : ι
  done : List Int
  run : List Int
  fin : List Int

def tick {ι : Type} (L : List Job) (pick : ι → Nat → List Int → Int × ι) (now : Nat) (s : Sch ι) : Sch ι :=
  let i := (pick s.st now s.done).1
  let k := i.toNat
  if i < 0 then ⟨(pick s.st now s.done).2, s.done, s.run ++ [i], s.fin⟩
  else ⟨(pick s.st now s.done).2, s.done.set k (gI s.done k + 1), s.run ++ [i], if gI s.done k + 1 = (L.getD k default).E then s.fin.set k (now + 1) else s.fin⟩

def sim {ι : Type} (L : List Job) (pick : ι → Nat → List Int → Int × ι) (s0 : ι) : Nat → Sch ι
  | 0 => ⟨s0, List.replicate L.length 0, [], List.replicate L.length (-1)⟩
  | n + 1 => tick L pick n (sim L pick s0 n)

/-- A job that is released and unfinished. -/
def readyJ (L : List Job) (done : List Int) (now : Nat) (i : Nat) : Bool := decide ((L.getD i default).R ≤ now ∧ gI done i < (L.getD i default).E)

def edfPick (L : List Job) (now : Nat) (done : List Int) : Int := bestF L.length (readyJ L done now) fun i => (L.getD i default).D
def simU (L : List Job) (pick : Nat → List Int → Int) : Nat → Sch Unit := sim L (fun _ now done => (pick now done, ())) ()

section
variable {ι : Type} {L : List Job} {pick : ι → Nat → List Int → Int × ι} {s0 : ι}
theorem sim_lens : ∀ n, (sim L pick s0 n).done.length = L.length ∧ (sim L pick s0 n).fin.length = L.length ∧ (sim L pick s0 n).run.length = n
  | 0 => by simp [sim]
  | n + 1 => by
    have h := sim_lens n
    simp only [sim, tick]
    split
    · simp [h]
    · refine ⟨by simp [h], ?_, by simp [h]⟩
      split <;> simp [h]
end

theorem gI_set {l : List Int} {k : Nat} (h : k < l.length) (v : Int) (i : Nat) : gI (l.set k v) i = if k = i then v else gI l i := by
  unfold gI
  simp only [Int.toNat_natCast, List.getD_eq_getElem?_getD, List.getElem?_set]
  by_cases e : k = i
  · subst e; simp [h]
  · simp [e]

theorem gI_rep (n : Nat) (v : Int) (i : Nat) (h : i < n) : gI (List.replicate n v) i = v := by
  simp [gI, List.getD_eq_getElem?_getD, List.getElem?_replicate, h]

theorem sim_done {ι : Type} {L : List Job} {pick : ι → Nat → List Int → Int × ι} {s0 : ι} (hr : ∀ s now done, (pick s now done).1 < L.length) : ∀ n (i : Nat), i < L.length → 0 ≤ gI (sim L pick s0 n).done i ∧ gI (sim L pick s0 n).done i ≤ n
  | 0, i, h => by simp only [sim]; rw [gI_rep _ _ _ h]; omega
  | n + 1, i, h => by
    have ih := sim_done hr (s0 := s0) n i h
    have hl := sim_lens (L := L) (pick := pick) (s0 := s0) n
    simp only [sim, tick]
    have hp := hr (sim L pick s0 n).st n (sim L pick s0 n).done
    split
    · simp only; omega
    · rw [gI_set (by omega)]
      split
      · rename_i e; rw [← e] at ih; omega
      · omega

theorem sim_run_succ {ι : Type} {L : List Job} {pick : ι → Nat → List Int → Int × ι} {s0 : ι} (n : Nat) : (sim L pick s0 (n + 1)).run = (sim L pick s0 n).run ++ [(pick (sim L pick s0 n).st n (sim L pick s0 n).done).1] := by
  simp only [sim, tick]; split <;> rfl
end Go.Ds
