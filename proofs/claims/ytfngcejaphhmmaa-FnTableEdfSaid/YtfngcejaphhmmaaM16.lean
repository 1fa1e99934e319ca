import Derived.Test.YtfngcejaphhmmaaMM
namespace Go.Ds
def syncJob (S : List Task) (now i : Nat) : Job := ⟨i, now, now + (gT S i).D, (gT S i).C⟩
def syncOk (S : List Task) (lim : Int) (now i : Nat) : Prop := (now : Int) % (gT S i).P = 0 ∧ (now : Int) + (gT S i).D ≤ lim
instance (S : List Task) (lim : Int) (now i : Nat) : Decidable (syncOk S lim now i) := by unfold syncOk; infer_instance
def syncIn (S : List Task) (lim : Int) (now : Nat) (M : List Job) : Nat → List Job
  | 0 => M
  | k + 1 => if syncOk S lim now k ∧ (syncIn S lim now M k).length < 60 then syncIn S lim now M k ++ [syncJob S now k] else syncIn S lim now M k
def sync (S : List Task) (lim : Int) : Nat → List Job
  | 0 => []
  | n + 1 => syncIn S lim n (sync S lim n) S.length
theorem syncIn_le (S : List Task) (lim : Int) (now : Nat) (M : List Job) : ∀ k, M.length ≤ (syncIn S lim now M k).length
  | 0 => Nat.le_refl _
  | k + 1 => by
    have ih := syncIn_le S lim now M k
    simp only [syncIn]
    split
    · rw [List.length_append]; omega
    · exact ih
theorem syncIn_60 (S : List Task) (lim : Int) (now : Nat) (M : List Job) (h : M.length ≤ 60) : ∀ k, (syncIn S lim now M k).length ≤ 60
  | 0 => h
  | k + 1 => by
    have ih := syncIn_60 S lim now M h k
    simp only [syncIn]
    split
    · rename_i h1; rw [List.length_append]; have := h1.2; simp only [List.length_cons, List.length_nil]; omega
    · exact ih
theorem sync_60 (S : List Task) (lim : Int) : ∀ n, (sync S lim n).length ≤ 60
  | 0 => by simp [sync]
  | n + 1 => syncIn_60 S lim n _ (sync_60 S lim n) _
/-- What stands in the pattern. -/
structure SyncI (S : List Task) (lim : Int) (now k : Nat) (M : List Job) : Prop where
  form : ∀ j ∈ M, ∃ t i : Nat, i < S.length ∧ syncOk S lim t i ∧ j = syncJob S t i ∧ (t < now ∨ (t = now ∧ i < k))
  ord : ∀ m (h : m < M.length), 0 < m → before (M[m - 1]'(by omega)) M[m]
  gap : spacedP Job.R (perOf S) M
theorem SyncI.snoc {S : List Task} {lim : Int} {now k : Nat} {M : List Job} (h : SyncI S lim now k M) (hS : setOk S) (hk : k < S.length) (ho : syncOk S lim now k) : SyncI S lim now (k + 1) (M ++ [syncJob S now k]) := by
  refine ⟨?_, ?_, ?_⟩
  · intro j hj
    rcases List.mem_append.1 hj with h1 | h1
    · obtain ⟨t, i, h2, h3, h4, h5⟩ := h.form j h1
      exact ⟨t, i, h2, h3, h4, by omega⟩
    · rw [List.mem_singleton] at h1
      exact ⟨now, k, hk, ho, h1, by omega⟩
  · intro m hm h0
    rw [List.length_append, List.length_cons, List.length_nil] at hm
    by_cases e : m < M.length
    · rw [List.getElem_append_left (by omega), List.getElem_append_left e]
      exact h.ord m e h0
    · have em : m = M.length := by omega
      subst em
      rw [List.getElem_append_left (by omega), List.getElem_append_right (by omega)]
      simp only [Nat.sub_self, List.getElem_cons_zero]
      obtain ⟨t, i, h2, h3, h4, h5⟩ := h.form _ (List.getElem_mem (show M.length - 1 < M.length by omega))
      rw [h4]
      unfold before syncJob
      simp only
      omega
  · intro m hm b hb
    rw [List.length_append, List.length_cons, List.length_nil] at hm
    by_cases e : m < M.length
    · rw [List.getElem_append_left e] at hb ⊢
      rw [List.take_append_of_le_length (by omega)] at hb
      exact h.gap m e b hb
    · have em : m = M.length := by omega
      subst em
      rw [List.getElem_append_right (by omega)] at hb ⊢
      rw [List.take_left' rfl] at hb
      simp only [Nat.sub_self, List.getElem_cons_zero] at hb ⊢
      obtain ⟨j, hj, h1, h2⟩ := lastAt_mem _ _ _ _ hb
      obtain ⟨t, i, g2, g3, g4, g5⟩ := h.form j hj
      rw [g4] at h1 h2
      unfold syncJob at h1 h2 ⊢
      simp only at h1 h2 ⊢
      have hik : i = k := by omega
      subst hik
      have ht := gT_ok hS (show (0 : Int) ≤ (i : Int) by omega) (show (i : Int) < S.length by omega)
      unfold Task.ok at ht
      unfold perOf
      have hlt : t < now := by omega
      obtain ⟨x, hx⟩ := Int.dvd_of_emod_eq_zero g3.1
      obtain ⟨y, hy⟩ := Int.dvd_of_emod_eq_zero ho.1
      have hxy : x < y := by
        apply Classical.byContradiction
        intro hn
        have : (gT S i).P * y ≤ (gT S i).P * x := Int.mul_le_mul_of_nonneg_left (by omega) (by omega)
        omega
      have : (gT S i).P * (x + 1) ≤ (gT S i).P * y := Int.mul_le_mul_of_nonneg_left (by omega) (by omega)
      rw [Int.mul_add, Int.mul_one] at this
      omega
theorem SyncI.up {S : List Task} {lim : Int} {now k now' k' : Nat} {M : List Job} (h : SyncI S lim now k M) (hle : now < now' ∨ (now = now' ∧ k ≤ k')) : SyncI S lim now' k' M :=
  ⟨fun j hj => by
    obtain ⟨t, i, h2, h3, h4, h5⟩ := h.form j hj
    exact ⟨t, i, h2, h3, h4, by omega⟩, h.ord, h.gap⟩
theorem syncIn_inv {S : List Task} (hS : setOk S) {lim : Int} {now : Nat} {M : List Job} (h : SyncI S lim now 0 M) : ∀ k, k ≤ S.length → SyncI S lim now k (syncIn S lim now M k)
  | 0, _ => h
  | k + 1, hk => by
    have ih := syncIn_inv hS h k (by omega)
    simp only [syncIn]
    split
    · rename_i hc; exact ih.snoc hS (by omega) hc.1
    · exact ih.up (.inr ⟨rfl, by omega⟩)
theorem sync_inv {S : List Task} (hS : setOk S) (lim : Int) : ∀ n, SyncI S lim n 0 (sync S lim n)
  | 0 => ⟨fun j hj => by simp [sync] at hj, fun m hm => by simp [sync] at hm, fun m hm => by simp [sync] at hm⟩
  | n + 1 => (syncIn_inv hS (sync_inv hS lim n) S.length (Nat.le_refl _)).up (.inl (by omega))
theorem sync_legal {S : List Task} (hS : setOk S) {lim : Int} (hl : lim ≤ 120) (n : Nat) : jobsLegal S (sync S lim n) := by
  have hi := sync_inv hS lim n
  have fm : ∀ j ∈ sync S lim n, (0 ≤ j.T ∧ j.T < S.length) ∧ (0 ≤ j.R ∧ j.R ≤ 119) ∧ (1 ≤ j.E ∧ j.E ≤ costOf S j.T) ∧ j.D = j.R + (gT S j.T).D := by
    intro j hj
    obtain ⟨t, i, h2, h3, h4, _⟩ := hi.form j hj
    have ht := gT_ok hS (show (0 : Int) ≤ (i : Int) by omega) (show (i : Int) < S.length by omega)
    unfold Task.ok at ht
    unfold syncOk at h3
    rw [h4]
    exact ⟨⟨by show 0 ≤ (i : Int); omega, by show (i : Int) < S.length; omega⟩, ⟨by show 0 ≤ (t : Int); omega, by show (t : Int) ≤ 119; omega⟩, ⟨by show 1 ≤ (gT S i).C; omega, Int.le_refl _⟩, rfl⟩
  refine ⟨hS, ⟨sync_60 S lim n, fun k hk => ?_⟩, hi.gap, fun j hj => (fm j hj).2.2.2⟩
  obtain ⟨f1, f2, f3, _⟩ := fm _ (List.getElem_mem hk)
  exact ⟨f1, f2, f3, hi.ord k hk⟩
end Go.Ds
