/- The plain law: tasks and their sets. Definitions in plain Lean; no program in sight. -/
namespace Go.Ds

structure Task where
  C : Int
  D : Int
  P : Int
  deriving DecidableEq, Inhabited

def Task.ok (t : Task) : Prop := 1 ≤ t.C ∧ t.C ≤ 8 ∧ t.C ≤ t.D ∧ t.D ≤ t.P ∧ t.P ≤ 12
instance (t : Task) : Decidable t.ok := by unfold Task.ok; infer_instance

def setOk (L : List Task) : Prop := L.length ≤ 5 ∧ ∀ t ∈ L, t.ok
instance (L : List Task) : Decidable (setOk L) := by unfold setOk; infer_instance

/-- Of the first k elements all are. -/
theorem all_take_succ {α : Type} {p : α → Prop} {L : List α} {k : Nat} (h : k < L.length) : (∀ x ∈ L.take (k + 1), p x) ↔ (∀ x ∈ L.take k, p x) ∧ p L[k] := by
  rw [List.take_succ_eq_append_getElem h]
  simp only [List.mem_append, List.mem_singleton]
  constructor
  · exact fun hh => ⟨fun x hx => hh x (.inl hx), hh _ (.inr rfl)⟩
  · rintro ⟨h1, h2⟩ x (hx | rfl)
    · exact h1 x hx
    · exact h2

/-- The first place where it holds, or -1. -/
def idxF {α : Type} (p : α → Bool) (L : List α) : Int := match L.findIdx? p with
  | some i => i
  | none => -1

theorem idxF_found {α : Type} {p : α → Bool} {L : List α} {k : Nat} (h : k < L.length) (h1 : ∀ x ∈ L.take k, p x = false) (h2 : p L[k] = true) : idxF p L = k := by
  have : L.findIdx? p = some k := by
    rw [List.findIdx?_eq_some_iff_getElem]
    refine ⟨h, h2, fun j hj => ?_⟩
    have := h1 (L[j]'(by omega)) (by rw [List.mem_take_iff_getElem]; exact ⟨j, by omega, rfl⟩)
    simp [this]
  simp [idxF, this]

theorem idxF_none {α : Type} {p : α → Bool} {L : List α} (h1 : ∀ x ∈ L, p x = false) : idxF p L = -1 := by
  have : L.findIdx? p = none := by rw [List.findIdx?_eq_none_iff]; exact h1
  simp [idxF, this]

theorem idxF_any {α : Type} {p : α → Bool} {L : List α} : 0 ≤ idxF p L ↔ ∃ x ∈ L, p x = true := by
  unfold idxF
  cases h : L.findIdx? p with
  | none =>
    rw [List.findIdx?_eq_none_iff] at h
    simp only [Int.reduceNeg]
    constructor
    · intro h'; omega
    · rintro ⟨x, hx, hp⟩; rw [h x hx] at hp; cases hp
  | some i =>
    rw [List.findIdx?_eq_some_iff_getElem] at h
    obtain ⟨hi, hp, _⟩ := h
    simp only
    exact ⟨fun _ => ⟨L[i], List.getElem_mem _, hp⟩, fun _ => by omega⟩

def jitOk (L : List Task) (J : List Int) : Prop := setOk L ∧ J.length = L.length ∧ ∀ p ∈ L.zip J, 0 ≤ p.2 ∧ p.2 ≤ p.1.D - p.1.C
instance (L : List Task) (J : List Int) : Decidable (jitOk L J) := by unfold jitOk; infer_instance

theorem mem_zip_at {α β : Type} {L : List α} {J : List β} {k : Nat} (h1 : k < L.length) (h2 : k < J.length) : (L[k], J[k]) ∈ L.zip J := by
  have h3 : k < (L.zip J).length := by simp; omega
  have := List.getElem_mem h3
  rwa [List.getElem_zip] at this

/-- A list being filled. -/
def filled {α : Type} (L : List α) (z : α) (k : Nat) : List α := L.take k ++ List.replicate (L.length - k) z
theorem filled_length {α : Type} (L : List α) (z : α) (k : Nat) (h : k ≤ L.length) : (filled L z k).length = L.length := by simp [filled]; omega
theorem filled_zero {α : Type} (L : List α) (z : α) : filled L z 0 = List.replicate L.length z := by simp [filled]
theorem filled_all {α : Type} (L : List α) (z : α) : filled L z L.length = L := by simp [filled]
theorem filled_set {α : Type} (L : List α) (z : α) (k : Nat) (h : k < L.length) : (filled L z k).set k L[k] = filled L z (k + 1) := by
  unfold filled
  rw [show L.length - k = (L.length - (k + 1)) + 1 from by omega, List.replicate_succ, List.set_append_right _ _ (by simp; omega)]
  simp only [List.length_take, Nat.min_eq_left (Nat.le_of_lt h), Nat.sub_self, List.set_cons_zero]
  rw [List.take_succ_eq_append_getElem h, List.append_assoc]; rfl

/-- No jitter is valid for a valid set. -/
theorem jitOk_zero (L : List Task) : jitOk L (List.replicate L.length 0) ↔ setOk L := by
  unfold jitOk
  refine ⟨fun h => h.1, fun h => ⟨h, by simp, ?_⟩⟩
  rintro ⟨t, j⟩ hp
  have h1 := (List.of_mem_zip hp).1
  have h2 := (List.of_mem_zip hp).2
  have h3 := h.2 t h1
  unfold Task.ok at h3
  simp only [List.mem_replicate] at h2
  simp only
  omega

/-- Jitter beyond the deadline minus the cost is not. -/
theorem jitOk_beyond {L : List Task} {J : List Int} {k : Nat} (h : k < L.length) : ¬ jitOk L (J.set k (L[k].D - L[k].C + 1)) := by
  rintro ⟨_, h2, h3⟩
  have hk : k < (J.set k (L[k].D - L[k].C + 1)).length := by omega
  have := h3 _ (mem_zip_at h hk)
  simp only [List.getElem_set_self] at this
  omega

/-- The first m elements are numbered from k on. -/
def marked (k : Int) (L : List Int) (m : Nat) : List Int := (List.range m).map (fun j : Nat => k + (j : Int)) ++ L.drop m
theorem marked_length (k : Int) (L : List Int) (m : Nat) (h : m ≤ L.length) : (marked k L m).length = L.length := by simp [marked]; omega
theorem marked_zero (k : Int) (L : List Int) : marked k L 0 = L := by simp [marked]
theorem marked_set (k : Int) (L : List Int) (m : Nat) (h : m < L.length) : (marked k L m).set m (k + m) = marked k L (m + 1) := by
  unfold marked
  rw [List.set_append_right _ _ (by simp), List.range_succ, List.map_append, List.append_assoc]
  congr 1
  simp only [List.length_map, List.length_range, Nat.sub_self, List.map_cons, List.map_nil]
  rw [List.drop_eq_getElem_cons h]
  rfl

/-- The list reads k, k + 1, .. -/
def isRun (k : Int) (L : List Int) : Prop := ∀ j (h : j < L.length), L[j] = k + j
theorem isRun_marked (k : Int) (L : List Int) : isRun k (marked k L L.length) := by
  intro j h
  simp [marked]

def markedT (k : Int) (L : List Task) (m : Nat) : List Task := (List.range m).map (fun j : Nat => ⟨k + 3 * (j : Int), k + 3 * (j : Int) + 1, k + 3 * (j : Int) + 2⟩) ++ L.drop m
theorem markedT_length (k : Int) (L : List Task) (m : Nat) (h : m ≤ L.length) : (markedT k L m).length = L.length := by simp [markedT]; omega
theorem markedT_zero (k : Int) (L : List Task) : markedT k L 0 = L := by simp [markedT]
theorem markedT_set (k : Int) (L : List Task) (m : Nat) (h : m < L.length) : (markedT k L m).set m ⟨k + 3 * m, k + 3 * m + 1, k + 3 * m + 2⟩ = markedT k L (m + 1) := by
  unfold markedT
  rw [List.set_append_right _ _ (by simp), List.range_succ, List.map_append, List.append_assoc]
  congr 1
  simp only [List.length_map, List.length_range, Nat.sub_self, List.map_cons, List.map_nil]
  rw [List.drop_eq_getElem_cons h]
  rfl
end Go.Ds
