/- The plain law: tasks and their sets. Definitions in plain Lean; no program in sight. -/

namespace Go.Ds

structure Task where
  C : Int
  D : Int
  P : Int
  deriving DecidableEq, Inhabited

def Task.ok (t : Task) : Prop := 1 ≤ t.C ∧ t.C ≤ 8 ∧ t.C ≤ t.D ∧ t.D ≤ t.P ∧ t.P ≤ 12
instance (t : Task) : Decidable t.ok := by unfold Task.ok; infer_instance

def setOk (L : List Task) : Prop := L.length ≤ 5 ∧ ∀ t ∈ L, t.ok
instance (L : List Task) : Decidable (setOk L) := by unfold setOk; infer_instance

/-- Of the first k elements all are. -/
theorem all_take_succ {α : Type} {p : α → Prop} {L : List α} {k : Nat} (h : k < L.length) : (∀ x ∈ L.take (k + 1), p x) ↔ (∀ x ∈ L.take k, p x) ∧ p L[k] := by
  rw [List.take_succ_eq_append_getElem h]
  simp only [List.mem_append, List.mem_singleton]
  constructor
  · exact fun hh => ⟨fun x hx => hh x (.inl hx), hh _ (.inr rfl)⟩
  · rintro ⟨h1, h2⟩ x (hx | rfl)
    · exact h1 x hx
    · exact h2

/-- The first place where it holds, or -1. -/
def idxF {α : Type} (p : α → Bool) (L : List α) : Int := match L.findIdx? p with
  | some i => i
  | none => -1

theorem idxF_found {α : Type} {p : α → Bool} {L : List α} {k : Nat} (h : k < L.length) (h1 : ∀ x ∈ L.take k, p x = false) (h2 : p L[k] = true) : idxF p L = k := by
  have : L.findIdx? p = some k := by
    rw [List.findIdx?_eq_some_iff_getElem]
    refine ⟨h, h2, fun j hj => ?_⟩
    have := h1 (L[j]'(by omega)) (by rw [List.mem_take_iff_getElem]; exact ⟨j, by omega, rfl⟩)
    simp [this]
  simp [idxF, this]

theorem idxF_none {α : Type} {p : α → Bool} {L : List α} (h1 : ∀ x ∈ L, p x = false) : idxF p L = -1 := by
  have : L.findIdx? p = none := by rw [List.findIdx?_eq_none_iff]; exact h1
  simp [idxF, this]

theorem idxF_any {α : Type} {p : α → Bool} {L : List α} : 0 ≤ idxF p L ↔ ∃ x ∈ L, p x = true := by
  unfold idxF
  cases h : L.findIdx? p with
  | none =>
    rw [List.findIdx?_eq_none_iff] at h
    simp only [Int.reduceNeg]
    constructor
    · intro h'; omega
    · rintro ⟨x, hx, hp⟩; rw [h x hx] at hp; cases hp
  | some i =>
    rw [List.findIdx?_eq_some_iff_getElem] at h
    obtain ⟨hi, hp, _⟩ := h
    simp only
    exact ⟨fun _ => ⟨L[i], List.getElem_mem _, hp⟩, fun _ => by omega⟩

def jitOk (L : List Task) (J : List Int) : Prop := setOk L ∧ J.length = L.length ∧ ∀ p ∈ L.zip J, 0 ≤ p.2 ∧ p.2 ≤ p.1.D - p.1.C
instance (L : List Task) (J : List Int) : Decidable (jitOk L J) := by unfold jitOk; infer_instance

theorem mem_zip_at {α β : Type} {L : List α} {J : List β} {k : Nat} (h1 : k < L.length) (h2 : k < J.length) : (L[k], J[k]) ∈ L.zip J := by
  have h3 : k < (L.zip J).length := by simp; omega
  have := List.getElem_mem h3
  rwa [List.getElem_zip] at this

/-- A list being filled. -/
def filled {α : Type} (L : List α) (z : α) (k : Nat) : List α := L.take k ++ List.replicate (L.length - k) z
theorem filled_length {α : Type} (L : List α) (z : α) (k : Nat) (h : k ≤ L.length) : (filled L z k).length = L.length := by simp [filled]; omega
theorem filled_zero {α : Type} (L : List α) (z : α) : filled L z 0 = List.replicate L.length z := by simp [filled]
theorem filled_all {α : Type} (L : List α) (z : α) : filled L z L.length = L := by simp [filled]
theorem filled_set {α : Type} (L : List α) (z : α) (k : Nat) (h : k < L.length) : (filled L z k).set k L[k] = filled L z (k + 1) := by
  unfold filled
  rw [show L.length - k = (L.length - (k + 1)) + 1 from by omega, List.replicate_succ, List.set_append_right _ _ (by simp; omega)]
  simp only [List.length_take, Nat.min_eq_left (Nat.le_of_lt h), Nat.sub_self, List.set_cons_zero]
  rw [List.take_succ_eq_append_getElem h, List.append_assoc]; rfl

/-- No jitter is valid for a valid set. -/
theorem jitOk_zero (L : List Task) : jitOk L (List.replicate L.length 0) ↔ setOk L := by
  unfold jitOk
  refine ⟨fun h => h.1, fun h => ⟨h, by simp, ?_⟩⟩
  rintro ⟨t, j⟩ hp
  have h1 := (List.of_mem_zip hp).1
  have h2 := (List.of_mem_zip hp).2
  have h3 := h.2 t h1
  unfold Task.ok at h3
  simp only [List.mem_replicate] at h2
  simp only
  omega

/-- Jitter beyond the deadline minus the cost is not. -/
theorem jitOk_beyond {L : List Task} {J : List Int} {k : Nat} (h : k < L.length) : ¬ jitOk L (J.set k (L[k].D - L[k].C + 1)) := by
  rintro ⟨_, h2, h3⟩
  have hk : k < (J.set k (L[k].D - L[k].C + 1)).length := by omega
  have := h3 _ (mem_zip_at h hk)
  simp only [List.getElem_set_self] at this
  omega

/-- The first m elements are numbered from k on. -/
def marked (k : Int) (L : List Int) (m : Nat) : List Int := (List.range m).map (fun j : Nat => k + (j : Int)) ++ L.drop m
theorem marked_length (k : Int) (L : List Int) (m : Nat) (h : m ≤ L.length) : (marked k L m).length = L.length := by simp [marked]; omega
theorem marked_zero (k : Int) (L : List Int) : marked k L 0 = L := by simp [marked]
theorem marked_set (k : Int) (L : List Int) (m : Nat) (h : m < L.length) : (marked k L m).set m (k + m) = marked k L (m + 1) := by
  unfold marked
  rw [List.set_append_right _ _ (by simp), List.range_succ, List.map_append, List.append_assoc]
  congr 1
  simp only [List.length_map, List.length_range, Nat.sub_self, List.map_cons, List.map_nil]
  rw [List.drop_eq_getElem_cons h]
  rfl

/-- The list reads k, k + 1, .. -/
def isRun (k : Int) (L : List Int) : Prop := ∀ j (h : j < L.length), L[j] = k + j
theorem isRun_marked (k : Int) (L : List Int) : isRun k (marked k L L.length) := by
  intro j h
  simp [marked]

def markedT (k : Int) (L : List Task) (m : Nat) : List Task := (List.range m).map (fun j : Nat => ⟨k + 3 * (j : Int), k + 3 * (j : Int) + 1, k + 3 * (j : Int) + 2⟩) ++ L.drop m
theorem markedT_length (k : Int) (L : List Task) (m : Nat) (h : m ≤ L.length) : (markedT k L m).length = L.length := by simp [markedT]; omega
theorem markedT_zero (k : Int) (L : List Task) : markedT k L 0 = L := by simp [markedT]
theorem markedT_set (k : Int) (L : List Task) (m : Nat) (h : m < L.length) : (markedT k L m).set m ⟨k + 3 * m, k + 3 * m + 1, k + 3 * m + 2⟩ = markedT k L (m + 1) := by
  unfold markedT
  rw [List.set_append_right _ _ (by simp), List.range_succ, List.map_append, List.append_assoc]
  congr 1
  simp only [List.length_map, List.length_range, Nat.sub_self, List.map_cons, List.map_nil]
  rw [List.drop_eq_getElem_cons h]
  rfl
end Go.Ds

/- The plain law: priority orders and response times. Definitions in plain Lean; no program in sight. -/
namespace Go.Ds

def ordOk (S : List Task) (O : List Int) : Prop := setOk S ∧ O.length = S.length ∧ (∀ k ∈ O, 0 ≤ k ∧ k < S.length) ∧ O.Nodup
instance (S : List Task) (O : List Int) : Decidable (ordOk S O) := by unfold ordOk; infer_instance

theorem nodup_take_succ {α : Type} {O : List α} {k : Nat} (h : k < O.length) : (O.take (k + 1)).Nodup ↔ (O.take k).Nodup ∧ O[k] ∉ O.take k := by
  rw [List.take_succ_eq_append_getElem h, List.nodup_append]
  simp only [List.mem_singleton, ne_eq]
  constructor
  · rintro ⟨h1, _, h3⟩
    exact ⟨h1, fun hm => h3 _ hm _ rfl rfl⟩
  · rintro ⟨h1, h2⟩
    exact ⟨h1, by simp, fun a ha b hb e => h2 (by rw [← hb, ← e]; exact ha)⟩

/-- The first place of an element is its own if it did not come before. -/
theorem idxF_own {O : List Int} {k : Nat} (h : k < O.length) : idxF (fun x => decide (x = O[k])) O = k ↔ O[k] ∉ O.take k := by
  constructor
  · intro he hm
    obtain ⟨j, hj, e⟩ := List.mem_take_iff_getElem.1 hm
    unfold idxF at he
    split at he
    · rename_i i hi
      have hik : i = k := by omega
      rw [List.findIdx?_eq_some_iff_getElem] at hi
      obtain ⟨_, _, hn⟩ := hi
      exact hn j (by omega) (by simpa using e)
    · omega
  · intro hm
    refine idxF_found h (fun x hx => ?_) (by simp)
    simp only [decide_eq_false_iff_not]
    rintro rfl
    exact hm hx

theorem idxF_mem {O : List Int} {x : Int} : 0 ≤ idxF (fun y => decide (y = x)) O ↔ x ∈ O := by
  rw [idxF_any]
  simp

def gT (S : List Task) (k : Int) : Task := S.getD k.toNat default
def gI (J : List Int) (k : Int) : Int := J.getD k.toNat 0

/-- The work that a task and those above it may ask for in a window of length r. -/
def nxt (S : List Task) (J : List Int) (A : List Int) (c r : Int) : Int := A.foldl (fun acc k => acc + (r + gI J k + (gT S k).P - 1) / (gT S k).P * (gT S k).C) c

/-- The response time of task i below A, by iteration. -/
def resp (S : List Task) (J : List Int) (A : List Int) (i : Int) : Nat → Int → Int
  | 0, _ => -1
  | f + 1, r => if r + gI J i ≤ (gT S i).D then if nxt S J A (gT S i).C r = r then r + gI J i else resp S J A i f (nxt S J A (gT S i).C r) else -1

def respOf (S : List Task) (J : List Int) (A : List Int) (i : Int) : Int := resp S J A i 20 (gT S i).C

/-- The response times of all tasks: the order's tasks one by one. -/
def resps (S : List Task) (J : List Int) (O : List Int) : Nat → List Int
  | 0 => List.replicate S.length 0
  | k + 1 => (resps S J O k).set (O.getD k 0).toNat (respOf S J (O.take k) (O.getD k 0))

theorem resps_length (S : List Task) (J : List Int) (O : List Int) : ∀ k, (resps S J O k).length = S.length
  | 0 => by simp [resps]
  | k + 1 => by rw [resps, List.length_set]; exact resps_length S J O k

theorem nxt_nil (S : List Task) (J : List Int) (c r : Int) : nxt S J [] c r = c := rfl
theorem nxt_append (S : List Task) (J A : List Int) (k c r : Int) : nxt S J (A ++ [k]) c r = nxt S J A c r + (r + gI J k + (gT S k).P - 1) / (gT S k).P * (gT S k).C := by simp [nxt]

structure Inst (S : List Task) (J A : List Int) (i : Int) : Prop where
  hS : setOk S
  hJ : jitOk S J
  hA : ∀ k ∈ A, 0 ≤ k ∧ k < S.length
  hi : 0 ≤ i ∧ i < S.length
  hl : A.length ≤ 5

theorem gT_eq {S : List Task} {k : Int} (h : k.toNat < S.length) : gT S k = S[k.toNat] := by simp [gT, List.getD_eq_getElem?_getD, h]
theorem gI_eq {J : List Int} {k : Int} (h : k.toNat < J.length) : gI J k = J[k.toNat] := by simp [gI, List.getD_eq_getElem?_getD, h]
theorem gT_ok {S : List Task} {k : Int} (hS : setOk S) (h0 : 0 ≤ k) (h : k < S.length) : (gT S k).ok := by
  have hk : k.toNat < S.length := by omega
  rw [gT_eq hk]; exact hS.2 _ (List.getElem_mem hk)
theorem gI_ok {S : List Task} {J : List Int} {k : Int} (hJ : jitOk S J) (h0 : 0 ≤ k) (h : k < S.length) : 0 ≤ gI J k ∧ gI J k ≤ 12 := by
  have hk : k.toNat < S.length := by omega
  have hj : k.toNat < J.length := by have := hJ.2.1; omega
  have h1 := hJ.2.2 _ (mem_zip_at hk hj)
  have h2 := hJ.1.2 _ (List.getElem_mem hk)
  unfold Task.ok at h2
  rw [gI_eq hj]
  simp only at h1
  omega

/-- What one task above asks for. -/
def ask (S : List Task) (J : List Int) (r k : Int) : Int := (r + gI J k + (gT S k).P - 1) / (gT S k).P * (gT S k).C

theorem ask_bounds {S : List Task} {J : List Int} {r k : Int} (hS : setOk S) (hJ : jitOk S J) (h0 : 0 ≤ k) (h : k < S.length) (hr : 0 ≤ r) (hr2 : r ≤ 100) :
    (0 ≤ (r + gI J k + (gT S k).P - 1) / (gT S k).P ∧ (r + gI J k + (gT S k).P - 1) / (gT S k).P ≤ 130) ∧ 0 ≤ ask S J r k ∧ ask S J r k ≤ 1040 := by
  have h1 := gT_ok hS h0 h
  have h2 := gI_ok hJ h0 h
  unfold Task.ok at h1
  have q1 : 0 ≤ (r + gI J k + (gT S k).P - 1) / (gT S k).P := Int.ediv_nonneg (by omega) (by omega)
  have q2 : (r + gI J k + (gT S k).P - 1) / (gT S k).P ≤ r + gI J k + (gT S k).P - 1 := Int.ediv_le_self _ (by omega)
  have q3 : (r + gI J k + (gT S k).P - 1) / (gT S k).P ≤ 130 := by omega
  refine ⟨⟨q1, q3⟩, Int.mul_nonneg q1 (by omega), ?_⟩
  unfold ask
  calc (r + gI J k + (gT S k).P - 1) / (gT S k).P * (gT S k).C ≤ 130 * 8 := Int.mul_le_mul q3 (by omega) (by omega) (by omega)
    _ ≤ 1040 := by decide

theorem nxt_bounds {S : List Task} {J : List Int} {r c : Int} (hS : setOk S) (hJ : jitOk S J) (hr : 0 ≤ r) (hr2 : r ≤ 100) : ∀ (A : List Int) (c : Int), (∀ k ∈ A, 0 ≤ k ∧ k < S.length) → c ≤ nxt S J A c r ∧ nxt S J A c r ≤ c + 1040 * A.length
  | [], c, _ => by simp [nxt]
  | k :: A, c, h => by
    have hk := h k (by simp)
    have h1 := (ask_bounds hS hJ hk.1 hk.2 hr hr2).2
    have h2 := nxt_bounds (r := r) (c := c) hS hJ hr hr2 A (c + ask S J r k) fun x hx => h x (by simp [hx])
    have e : nxt S J (k :: A) c r = nxt S J A (c + ask S J r k) r := rfl
    rw [e, List.length_cons]
    push_cast
    omega

theorem ask_mono {S : List Task} {J : List Int} {r r' k : Int} (hS : setOk S) (h0 : 0 ≤ k) (h : k < S.length) (hr : r ≤ r') : ask S J r k ≤ ask S J r' k := by
  have h1 := gT_ok hS h0 h
  unfold Task.ok at h1
  exact Int.mul_le_mul_of_nonneg_right (Int.ediv_le_ediv (by omega) (by omega)) (by omega)

theorem nxt_mono {S : List Task} {J : List Int} {r r' : Int} (hS : setOk S) (hr : r ≤ r') : ∀ (A : List Int) (c c' : Int), c ≤ c' → (∀ k ∈ A, 0 ≤ k ∧ k < S.length) → nxt S J A c r ≤ nxt S J A c' r'
  | [], c, c', hc, _ => hc
  | k :: A, c, c', hc, h => by
    have hk := h k (by simp)
    have := ask_mono (J := J) hS hk.1 hk.2 hr
    exact nxt_mono hS hr A (c + ask S J r k) (c' + ask S J r' k) (by omega) fun x hx => h x (by simp [hx])

/-- A state of the iteration. -/
def Step (S : List Task) (J A : List Int) (i r : Int) : Prop :=
  (gT S i).C ≤ r ∧ r ≤ 6000 ∧ (r ≤ 100 → r ≤ nxt S J A (gT S i).C r) ∧ ∃ f : Nat, resp S J A i f r = respOf S J A i ∧ 20 + (gT S i).C ≤ f + r

theorem Step.first {S : List Task} {J A : List Int} {i : Int} (h : Inst S J A i) : Step S J A i (gT S i).C := by
  have h1 := gT_ok h.hS h.hi.1 h.hi.2
  unfold Task.ok at h1
  refine ⟨by omega, by omega, fun _ => (nxt_bounds (c := 0) h.hS h.hJ (by omega) (by omega) A _ h.hA).1, 20, rfl, by omega⟩

theorem Step.go {S : List Task} {J A : List Int} {i r : Int} (h : Inst S J A i) (hs : Step S J A i r) (hle : r + gI J i ≤ (gT S i).D) :
    (0 ≤ r ∧ r ≤ 12) ∧ (nxt S J A (gT S i).C r = r → respOf S J A i = r + gI J i) ∧ (nxt S J A (gT S i).C r ≠ r → Step S J A i (nxt S J A (gT S i).C r) ∧ r < nxt S J A (gT S i).C r) := by
  have h1 := gT_ok h.hS h.hi.1 h.hi.2
  have h2 := gI_ok h.hJ h.hi.1 h.hi.2
  unfold Task.ok at h1
  obtain ⟨a1, a2, a3, f, hf, hfr⟩ := hs
  have hr : 0 ≤ r ∧ r ≤ 12 := by omega
  obtain ⟨f', rfl⟩ : ∃ f', f = f' + 1 := ⟨f - 1, by omega⟩
  simp only [resp, hle, if_true] at hf
  have hb := nxt_bounds (c := 0) h.hS h.hJ hr.1 (by omega) A (gT S i).C h.hA
  have hl := h.hl
  refine ⟨hr, fun e => ?_, fun e => ?_⟩
  · rw [if_pos e] at hf; exact hf.symm
  · rw [if_neg e] at hf
    have hlt : r < nxt S J A (gT S i).C r := by have := a3 (by omega); omega
    refine ⟨⟨hb.1, by omega, fun _ => nxt_mono h.hS (by omega) A _ _ (by omega) h.hA, f', hf, by omega⟩, hlt⟩

theorem Step.stop {S : List Task} {J A : List Int} {i r : Int} (hs : Step S J A i r) (hle : ¬ r + gI J i ≤ (gT S i).D) : respOf S J A i = -1 := by
  obtain ⟨_, _, _, f, hf, _⟩ := hs
  cases f with
  | zero => exact hf.symm
  | succ f => simp only [resp, hle, if_false] at hf; exact hf.symm
end Go.Ds

/- The plain law: jobs and legal release patterns. Definitions in plain Lean; no program in sight. -/
namespace Go.Ds

structure Job where
  T : Int
  R : Int
  D : Int
  E : Int
  deriving DecidableEq, Inhabited

/-- The time of the last job of a task. -/
def lastAt (at_ : Job → Int) (L : List Job) : Int → Option Int := L.foldl (fun f j => fun u => if u = j.T then some (at_ j) else f u) (fun _ => none)

theorem lastAt_nil (at_ : Job → Int) : lastAt at_ [] = fun _ => none := rfl
theorem lastAt_succ (at_ : Job → Int) {L : List Job} {k : Nat} (h : k < L.length) : lastAt at_ (L.take (k + 1)) = fun u => if u = L[k].T then some (at_ L[k]) else lastAt at_ (L.take k) u := by
  rw [List.take_succ_eq_append_getElem h]
  simp only [lastAt, List.foldl_append, List.foldl_cons, List.foldl_nil]

theorem lastAt_mem (at_ : Job → Int) (L : List Job) (u b : Int) (h : lastAt at_ L u = some b) : ∃ j ∈ L, j.T = u ∧ at_ j = b := by
  have key : ∀ (L : List Job) (f : Int → Option Int), L.foldl (fun f j => fun u => if u = j.T then some (at_ j) else f u) f u = some b → (∃ j ∈ L, j.T = u ∧ at_ j = b) ∨ f u = some b := by
    intro L
    induction L with
    | nil => intro f h; exact .inr h
    | cons j L ih =>
      intro f h
      rcases ih _ h with ⟨x, hx, h1⟩ | h1
      · exact .inl ⟨x, by simp [hx], h1⟩
      · dsimp only at h1
        split at h1
        · rename_i e; exact .inl ⟨j, by simp, e.symm, by simpa using h1⟩
        · exact .inr h1
  rcases key L _ h with h1 | h1
  · exact h1
  · cases h1

def before (a b : Job) : Prop := a.R < b.R ∨ (a.R = b.R ∧ a.T < b.T)
instance (a b : Job) : Decidable (before a b) := by unfold before; infer_instance

/-- Job k of a list may stand where it stands. -/
def jrowAt (n : Int) (cost : Int → Int) (L : List Job) (k : Nat) (h : k < L.length) : Prop :=
  (0 ≤ L[k].T ∧ L[k].T < n) ∧ (0 ≤ L[k].R ∧ L[k].R ≤ 119) ∧ (1 ≤ L[k].E ∧ L[k].E ≤ cost L[k].T) ∧ (0 < k → before (L[k - 1]'(by omega)) L[k])

def orderedP (n : Int) (cost : Int → Int) (L : List Job) : Prop := L.length ≤ 60 ∧ ∀ k (h : k < L.length), jrowAt n cost L k h

def gapAt (at_ : Job → Int) (per : Int → Int) (L : List Job) (k : Nat) (h : k < L.length) : Prop :=
  ∀ b, lastAt at_ (L.take k) L[k].T = some b → per L[k].T ≤ at_ L[k] - b

def spacedP (at_ : Job → Int) (per : Int → Int) (L : List Job) : Prop := ∀ k (h : k < L.length), gapAt at_ per L k h

def costOf (S : List Task) (t : Int) : Int := (gT S t).C
def perOf (S : List Task) (t : Int) : Int := (gT S t).P
def arrOf (S : List Task) (j : Job) : Int := j.D - (gT S j.T).D

def jobsLegal (S : List Task) (L : List Job) : Prop :=
  setOk S ∧ orderedP S.length (costOf S) L ∧ spacedP Job.R (perOf S) L ∧ ∀ j ∈ L, j.D = j.R + (gT S j.T).D

def jitLegal (S : List Task) (J : List Int) (L : List Job) : Prop :=
  jitOk S J ∧ orderedP S.length (costOf S) L ∧ (∀ j ∈ L, ((gT S j.T).D ≤ j.D ∧ j.D ≤ 132) ∧ 0 ≤ j.R - arrOf S j ∧ j.R - arrOf S j ≤ gI J j.T) ∧ spacedP (arrOf S) (perOf S) L

theorem orderedP.mem {n : Int} {cost : Int → Int} {L : List Job} (h : orderedP n cost L) {j : Job} (hj : j ∈ L) : (0 ≤ j.T ∧ j.T < n) ∧ (0 ≤ j.R ∧ j.R ≤ 119) ∧ 1 ≤ j.E ∧ j.E ≤ cost j.T := by
  obtain ⟨k, hk, rfl⟩ := List.getElem_of_mem hj
  obtain ⟨h1, h2, h3, _⟩ := h.2 k hk
  exact ⟨h1, h2, h3⟩

/-- From when on a task may release again. -/
def nextOf (S : List Task) (at_ : Job → Int) (M : List Job) (t : Int) : Int := match lastAt at_ M t with | none => 0 | some b => b + perOf S t
def nextL (S : List Task) (at_ : Job → Int) (M : List Job) : List Int := (List.range S.length).map fun (t : Nat) => nextOf S at_ M t

theorem nextL_length (S : List Task) (at_ : Job → Int) (M : List Job) : (nextL S at_ M).length = S.length := by simp [nextL]
theorem nextL_nil (S : List Task) (at_ : Job → Int) : nextL S at_ [] = List.replicate S.length 0 := by
  apply List.ext_getElem
  · simp [nextL]
  · intro i h1 h2; simp [nextL, nextOf, lastAt]
theorem nextL_get (S : List Task) (at_ : Job → Int) (M : List Job) (i : Nat) (h : i < (nextL S at_ M).length) : (nextL S at_ M)[i] = nextOf S at_ M i := by simp [nextL]
theorem nextL_succ (S : List Task) (at_ : Job → Int) {L : List Job} {k : Nat} (h : k < L.length) (h0 : 0 ≤ L[k].T) :
    nextL S at_ (L.take (k + 1)) = (nextL S at_ (L.take k)).set L[k].T.toNat (at_ L[k] + perOf S L[k].T) := by
  apply List.ext_getElem
  · simp [nextL_length]
  · intro i h1 h2
    rw [nextL_get, List.getElem_set]
    unfold nextOf
    rw [lastAt_succ at_ h]
    by_cases e : L[k].T.toNat = i
    · have e2 : (i : Int) = L[k].T := by omega
      rw [if_pos e]; simp [e2]
    · have e2 : ¬ (i : Int) = L[k].T := by omega
      rw [if_neg e, nextL_get]; simp [e2, nextOf]

noncomputable instance (n : Int) (cost : Int → Int) (L : List Job) : Decidable (orderedP n cost L) := Classical.propDecidable _
noncomputable instance (a : Job → Int) (per : Int → Int) (L : List Job) : Decidable (spacedP a per L) := Classical.propDecidable _
noncomputable instance (S : List Task) (L : List Job) : Decidable (jobsLegal S L) := Classical.propDecidable _
noncomputable instance (S : List Task) (J : List Int) (L : List Job) : Decidable (jitLegal S J L) := Classical.propDecidable _
end Go.Ds

/- The plain law: response times as least fixed points; more jitter never shortens them. No program in sight. -/
namespace Go.Ds

theorem nodup_len : ∀ (n : Nat) (O : List Int), O.Nodup → (∀ x ∈ O, 0 ≤ x ∧ x < n) → O.length ≤ n
  | 0, O, _, h => by
    cases O with
    | nil => simp
    | cons x O => have := h x (by simp); omega
  | n + 1, O, hn, h => by
    by_cases hm : (n : Int) ∈ O
    · have h1 := nodup_len n (O.erase n) (hn.erase _) (fun x hx => by
        have h2 := (List.Nodup.mem_erase_iff hn).1 hx
        have := h x h2.2
        have : x ≠ n := h2.1
        omega)
      rw [List.length_erase_of_mem hm] at h1
      omega
    · have := nodup_len n O hn (fun x hx => by
        have := h x hx
        have : x ≠ n := fun e => hm (e ▸ hx)
        omega)
      omega

/-- A valid order holds every task. -/
theorem ordOk.mem {S : List Task} {O : List Int} (h : ordOk S O) {i : Int} (h0 : 0 ≤ i) (h1 : i < S.length) : i ∈ O := by
  refine Classical.byContradiction fun hm => ?_
  have := nodup_len S.length (i :: O) (by rw [List.nodup_cons]; exact ⟨hm, h.2.2.2⟩) (fun x hx => by
    rcases List.mem_cons.1 hx with rfl | hx
    · exact ⟨h0, h1⟩
    · exact h.2.2.1 x hx)
  rw [List.length_cons, h.2.1] at this
  omega

theorem resps_at {S : List Task} {J O : List Int} (hO : ordOk S O) : ∀ (k m : Nat) (hm : m < k) (hk : k ≤ O.length), gI (resps S J O k) (O.getD m 0) = respOf S J (O.take m) (O.getD m 0)
  | 0, m, hm, _ => by omega
  | k + 1, m, hm, hk => by
    have hkO : k < O.length := by omega
    have hmO : m < O.length := by omega
    have hr : ∀ q, (h : q < O.length) → 0 ≤ O[q] ∧ O[q] < S.length := fun q h => hO.2.2.1 _ (List.getElem_mem h)
    have gk : O.getD k 0 = O[k] := by simp [List.getD_eq_getElem?_getD, hkO]
    have gm : O.getD m 0 = O[m] := by simp [List.getD_eq_getElem?_getD, hmO]
    unfold gI
    rw [resps, List.getD_eq_getElem?_getD, List.getElem?_set]
    rcases Nat.lt_succ_iff_lt_or_eq.1 hm with h' | rfl
    · have hne : (O.getD k 0).toNat ≠ (O.getD m 0).toNat := by
        rw [gk, gm]
        have h1 := hr k hkO
        have h2 := hr m hmO
        have := (List.pairwise_iff_getElem.1 hO.2.2.2) m k hmO hkO h'
        intro e
        exact this (by omega)
      rw [if_neg hne]
      have := resps_at (J := J) hO k m h' (by omega)
      unfold gI at this
      rwa [List.getD_eq_getElem?_getD] at this
    · have h1 := hr m hkO
      rw [if_pos rfl, if_pos (by rw [resps_length, gk]; omega)]
      rfl

/-- The response time of a task is its least fixed point, if that is in time. -/
theorem respOf_char {S : List Task} {J A : List Int} {i : Int} (h : Inst S J A i) :
    (respOf S J A i = -1 ∧ ∀ r, (gT S i).C ≤ r → r + gI J i ≤ (gT S i).D → r < nxt S J A (gT S i).C r) ∨
    ∃ r, ((gT S i).C ≤ r ∧ r + gI J i ≤ (gT S i).D ∧ nxt S J A (gT S i).C r = r) ∧ respOf S J A i = r + gI J i ∧ ∀ r', (gT S i).C ≤ r' → r' < r → r' < nxt S J A (gT S i).C r' := by
  have key : ∀ (n : Nat) (r : Int), (6001 - r).toNat ≤ n → Step S J A i r → (∀ r', (gT S i).C ≤ r' → r' < r → r' < nxt S J A (gT S i).C r') →
      (respOf S J A i = -1 ∧ ∀ r, (gT S i).C ≤ r → r + gI J i ≤ (gT S i).D → r < nxt S J A (gT S i).C r) ∨
      ∃ r, ((gT S i).C ≤ r ∧ r + gI J i ≤ (gT S i).D ∧ nxt S J A (gT S i).C r = r) ∧ respOf S J A i = r + gI J i ∧ ∀ r', (gT S i).C ≤ r' → r' < r → r' < nxt S J A (gT S i).C r' := by
    intro n
    induction n with
    | zero => intro r hn hs; have := hs.2.1; omega
    | succ n ih =>
      intro r hn hs hlow
      by_cases hle : r + gI J i ≤ (gT S i).D
      · obtain ⟨hr, hst, hgo⟩ := hs.go h hle
        by_cases e : nxt S J A (gT S i).C r = r
        · exact .inr ⟨r, ⟨hs.1, hle, e⟩, hst e, hlow⟩
        · obtain ⟨hs', hlt⟩ := hgo e
          refine ih _ (by omega) hs' fun r' h1 h2 => ?_
          rcases Int.lt_or_le r' r with h3 | h3
          · exact hlow r' h1 h3
          · have := nxt_mono (J := J) h.hS h3 A (gT S i).C (gT S i).C (by omega) h.hA
            omega
      · exact .inl ⟨hs.stop hle, fun r' h1 h2 => hlow r' h1 (by omega)⟩
  exact key _ _ (Nat.le_refl _) (Step.first h) fun r' h1 h2 => by omega

theorem nxt_le {S : List Task} {J J' : List Int} {r : Int} (hS : setOk S) : ∀ (A : List Int) (c c' : Int), c ≤ c' → (∀ k ∈ A, 0 ≤ k ∧ k < S.length) → (∀ k ∈ A, gI J k ≤ gI J' k) → nxt S J A c r ≤ nxt S J' A c' r
  | [], c, c', hc, _, _ => hc
  | k :: A, c, c', hc, h, hJ => by
    have hk := h k (by simp)
    have h1 := gT_ok hS hk.1 hk.2
    unfold Task.ok at h1
    have hj := hJ k (by simp)
    have : ask S J r k ≤ ask S J' r k := Int.mul_le_mul_of_nonneg_right (Int.ediv_le_ediv (by omega) (by omega)) (by omega)
    exact nxt_le hS A (c + ask S J r k) (c' + ask S J' r k) (by omega) (fun x hx => h x (by simp [hx])) fun x hx => hJ x (by simp [hx])

/-- More jitter never shortens a response time. -/
theorem respOf_mono {S : List Task} {J J' A : List Int} {i : Int} (h : Inst S J A i) (h' : Inst S J' A i) (hA : ∀ k ∈ A, gI J k ≤ gI J' k) (hi : gI J i ≤ gI J' i) (hv : 0 ≤ respOf S J' A i) :
    0 ≤ respOf S J A i ∧ respOf S J A i ≤ respOf S J' A i := by
  have hj := gI_ok h.hJ h.hi.1 h.hi.2
  have ht := gT_ok h.hS h.hi.1 h.hi.2
  unfold Task.ok at ht
  rcases respOf_char h' with ⟨e, _⟩ | ⟨r', ⟨c1, c2, c3⟩, e', _⟩
  · omega
  · have hle := nxt_le (r := r') h.hS A (gT S i).C (gT S i).C (by omega) h.hA hA
    rcases respOf_char h with ⟨e, hno⟩ | ⟨r, ⟨d1, d2, d3⟩, e, hmin⟩
    · have := hno r' c1 (by omega); omega
    · have : ¬ r' < r := fun hlt => by have := hmin r' c1 hlt; omega
      omega

theorem respOf_bounds {S : List Task} {J A : List Int} {i : Int} (h : Inst S J A i) (hv : 0 ≤ respOf S J A i) : gI J i + (gT S i).C ≤ respOf S J A i ∧ respOf S J A i ≤ (gT S i).D := by
  rcases respOf_char h with ⟨e, _⟩ | ⟨r, ⟨d1, d2, d3⟩, e, _⟩ <;> omega

theorem zeros_ok {S : List Task} (hS : setOk S) : jitOk S (List.replicate S.length 0) := by
  refine ⟨hS, by simp, fun p hp => ?_⟩
  have h1 := List.of_mem_zip hp
  have h2 := hS.2 _ h1.1
  rw [List.mem_replicate] at h1
  unfold Task.ok at h2
  omega

theorem gI_zeros (n : Nat) (k : Int) : gI (List.replicate n 0) k = 0 := by
  unfold gI
  rw [List.getD_eq_getElem?_getD, List.getElem?_replicate]
  split <;> rfl

theorem gI_nonneg {S : List Task} {J : List Int} (hJ : jitOk S J) (k : Int) : 0 ≤ gI J k := by
  by_cases h : k.toNat < S.length
  · have := (gI_ok hJ (k := k.toNat) (by omega) (by omega)).1
    unfold gI at this ⊢
    rwa [Int.toNat_natCast] at this
  · have hj := hJ.2.1
    unfold gI
    rw [List.getD_eq_getElem?_getD, List.getElem?_eq_none (by omega)]
    simp

theorem gI_nat {J : List Int} {k : Nat} (h : k < J.length) : gI J k = J[k] := by simp [gI, List.getD_eq_getElem?_getD, h]
theorem gT_nat {S : List Task} {k : Nat} (h : k < S.length) : gT S k = S[k] := by simp [gT, List.getD_eq_getElem?_getD, h]

theorem inst_take {S : List Task} {J O : List Int} (hJ : jitOk S J) (hO : ordOk S O) {m : Nat} (hm : m < O.length) : Inst S J (O.take m) O[m] := by
  refine ⟨hJ.1, hJ, fun x hx => hO.2.2.1 x (List.mem_of_mem_take hx), hO.2.2.1 _ (List.getElem_mem hm), ?_⟩
  have := hJ.1.1
  have := hO.2.1
  rw [List.length_take]; omega

theorem resps_get {S : List Task} {J O : List Int} (hO : ordOk S O) {i : Int} (h0 : 0 ≤ i) (h1 : i < S.length) : ∃ m, ∃ h : m < O.length, O[m] = i ∧ gI (resps S J O O.length) i = respOf S J (O.take m) i := by
  obtain ⟨m, hm, e⟩ := List.getElem_of_mem (hO.mem h0 h1)
  refine ⟨m, hm, e, ?_⟩
  have := resps_at (J := J) hO O.length m hm (Nat.le_refl _)
  rw [show O.getD m 0 = i from by simp [List.getD_eq_getElem?_getD, hm, e]] at this
  exact this

theorem resps_mono {S : List Task} {J J' O : List Int} (hJ : jitOk S J) (hJ' : jitOk S J') (hO : ordOk S O) (hle : ∀ k, gI J k ≤ gI J' k) {i : Int} (h0 : 0 ≤ i) (h1 : i < S.length) (hv : 0 ≤ gI (resps S J' O O.length) i) :
    0 ≤ gI (resps S J O O.length) i ∧ gI (resps S J O O.length) i ≤ gI (resps S J' O O.length) i := by
  obtain ⟨m, hm, e, e1⟩ := resps_get (J := J) hO h0 h1
  obtain ⟨m', hm', e', e1'⟩ := resps_get (J := J') hO h0 h1
  have hmm : m = m' := by
    refine Classical.byContradiction fun hne => ?_
    rcases Nat.lt_or_gt_of_ne hne with h | h
    · exact (List.pairwise_iff_getElem.1 hO.2.2.2) m m' hm hm' h (e.trans e'.symm)
    · exact (List.pairwise_iff_getElem.1 hO.2.2.2) m' m hm' hm h (e'.trans e.symm)
  subst hmm
  subst e
  rw [e1'] at hv ⊢
  rw [e1]
  exact respOf_mono (inst_take hJ hO hm) (inst_take hJ' hO hm) (fun k _ => hle k) (hle _) hv

theorem resps_bounds {S : List Task} {J O : List Int} (hJ : jitOk S J) (hO : ordOk S O) {i : Int} (h0 : 0 ≤ i) (h1 : i < S.length) (hv : 0 ≤ gI (resps S J O O.length) i) :
    gI J i + (gT S i).C ≤ gI (resps S J O O.length) i ∧ gI (resps S J O O.length) i ≤ (gT S i).D := by
  obtain ⟨m, hm, e, e1⟩ := resps_get (J := J) hO h0 h1
  subst e
  rw [e1] at hv ⊢
  exact respOf_bounds (inst_take hJ hO hm) hv

theorem resps_range {S : List Task} {J O : List Int} (hJ : jitOk S J) (hO : ordOk S O) {i : Int} (h0 : 0 ≤ i) (h1 : i < S.length) : -1 ≤ gI (resps S J O O.length) i ∧ gI (resps S J O O.length) i ≤ 12 := by
  obtain ⟨m, hm, e, e1⟩ := resps_get (J := J) hO h0 h1
  subst e
  have hi := inst_take hJ hO hm
  have hj := gI_ok hJ h0 h1
  have ht := gT_ok hJ.1 h0 h1
  unfold Task.ok at ht
  rw [e1]
  rcases respOf_char hi with ⟨e, _⟩ | ⟨r, ⟨d1, d2, d3⟩, e, _⟩ <;> omega
end Go.Ds

/- The plain law: simulated schedules. Definitions in plain Lean; no program in sight. -/
namespace Go.Ds

/-- The first of those that may, with the least key. -/
def bestF (n : Nat) (ok : Nat → Bool) (key : Nat → Int) : Int := (List.range n).foldl (fun b i => if ok i = true ∧ (b < 0 ∨ key i < key b.toNat) then (i : Int) else b) (-1)

theorem bestF_succ (n : Nat) (ok : Nat → Bool) (key : Nat → Int) : bestF (n + 1) ok key = if ok n = true ∧ (bestF n ok key < 0 ∨ key n < key (bestF n ok key).toNat) then (n : Int) else bestF n ok key := by
  simp only [bestF, List.range_succ, List.foldl_append, List.foldl_cons, List.foldl_nil]
  rfl

/-- What the best one is. -/
theorem bestF_spec (ok : Nat → Bool) (key : Nat → Int) : ∀ n, (bestF n ok key = -1 ∧ ∀ i, i < n → ok i = false) ∨
    ∃ k : Nat, bestF n ok key = k ∧ k < n ∧ ok k = true ∧ (∀ i, i < n → ok i = true → key k ≤ key i) ∧ ∀ i, i < k → ok i = true → key k < key i
  | 0 => .inl ⟨rfl, fun i h => by omega⟩
  | n + 1 => by
    rw [bestF_succ]
    rcases bestF_spec ok key n with ⟨e, h⟩ | ⟨k, e, hk, hok, h1, h2⟩
    · by_cases hn : ok n = true
      · rw [if_pos ⟨hn, .inl (by omega)⟩]
        refine .inr ⟨n, rfl, by omega, hn, fun i hi hoi => ?_, fun i hi hoi => ?_⟩
        · rcases Nat.lt_succ_iff_lt_or_eq.1 hi with h' | rfl
          · rw [h i h'] at hoi; cases hoi
          · exact Int.le_refl _
        · rw [h i hi] at hoi; cases hoi
      · rw [if_neg (fun hh => hn hh.1)]
        refine .inl ⟨e, fun i hi => ?_⟩
        rcases Nat.lt_succ_iff_lt_or_eq.1 hi with h' | rfl
        · exact h i h'
        · simpa using hn
    · by_cases hn : ok n = true ∧ key n < key k
      · rw [if_pos ⟨hn.1, .inr (by rw [e]; exact hn.2)⟩]
        refine .inr ⟨n, rfl, by omega, hn.1, fun i hi hoi => ?_, fun i hi hoi => ?_⟩
        · rcases Nat.lt_succ_iff_lt_or_eq.1 hi with h' | rfl
          · have := h1 i h' hoi; omega
          · exact Int.le_refl _
        · have := h1 i hi hoi; omega
      · have hn' : ¬ (ok n = true ∧ (bestF n ok key < 0 ∨ key n < key (bestF n ok key).toNat)) := by
          rintro ⟨g1, g2 | g2⟩
          · omega
          · rw [e] at g2; exact hn ⟨g1, g2⟩
        rw [if_neg hn']
        refine .inr ⟨k, e, by omega, hok, fun i hi hoi => ?_, h2⟩
        rcases Nat.lt_succ_iff_lt_or_eq.1 hi with h' | rfl
        · exact h1 i h' hoi
        · have : ¬ key i < key k := fun h => hn ⟨hoi, h⟩
          omega

theorem bestF_range (ok : Nat → Bool) (key : Nat → Int) (n : Nat) : -1 ≤ bestF n ok key ∧ bestF n ok key < n := by
  rcases bestF_spec ok key n with ⟨e, _⟩ | ⟨k, e, hk, _⟩ <;> omega

/-- A simulation: what the picker remembers; how many ticks each job has run; what ran in each tick; when each job finished. -/
structure Sch (ι : Type) where
  st : ι
  done : List Int
  run : List Int
  fin : List Int

def tick {ι : Type} (L : List Job) (pick : ι → Nat → List Int → Int × ι) (now : Nat) (s : Sch ι) : Sch ι :=
  let i := (pick s.st now s.done).1
  let k := i.toNat
  if i < 0 then ⟨(pick s.st now s.done).2, s.done, s.run ++ [i], s.fin⟩
  else ⟨(pick s.st now s.done).2, s.done.set k (gI s.done k + 1), s.run ++ [i], if gI s.done k + 1 = (L.getD k default).E then s.fin.set k (now + 1) else s.fin⟩

def sim {ι : Type} (L : List Job) (pick : ι → Nat → List Int → Int × ι) (s0 : ι) : Nat → Sch ι
  | 0 => ⟨s0, List.replicate L.length 0, [], List.replicate L.length (-1)⟩
  | n + 1 => tick L pick n (sim L pick s0 n)

/-- A job that is released and unfinished. -/
def readyJ (L : List Job) (done : List Int) (now : Nat) (i : Nat) : Bool := decide ((L.getD i default).R ≤ now ∧ gI done i < (L.getD i default).E)

def edfPick (L : List Job) (now : Nat) (done : List Int) : Int := bestF L.length (readyJ L done now) fun i => (L.getD i default).D
def simU (L : List Job) (pick : Nat → List Int → Int) : Nat → Sch Unit := sim L (fun _ now done => (pick now done, ())) ()

section
variable {ι : Type} {L : List Job} {pick : ι → Nat → List Int → Int × ι} {s0 : ι}
theorem sim_lens : ∀ n, (sim L pick s0 n).done.length = L.length ∧ (sim L pick s0 n).fin.length = L.length ∧ (sim L pick s0 n).run.length = n
  | 0 => by simp [sim]
  | n + 1 => by
    have h := sim_lens n
    simp only [sim, tick]
    split
    · simp [h]
    · refine ⟨by simp [h], ?_, by simp [h]⟩
      split <;> simp [h]
end

theorem gI_set {l : List Int} {k : Nat} (h : k < l.length) (v : Int) (i : Nat) : gI (l.set k v) i = if k = i then v else gI l i := by
  unfold gI
  simp only [Int.toNat_natCast, List.getD_eq_getElem?_getD, List.getElem?_set]
  by_cases e : k = i
  · subst e; simp [h]
  · simp [e]

theorem gI_rep (n : Nat) (v : Int) (i : Nat) (h : i < n) : gI (List.replicate n v) i = v := by
  simp [gI, List.getD_eq_getElem?_getD, List.getElem?_replicate, h]

theorem sim_done {ι : Type} {L : List Job} {pick : ι → Nat → List Int → Int × ι} {s0 : ι} (hr : ∀ s now done, (pick s now done).1 < L.length) : ∀ n (i : Nat), i < L.length → 0 ≤ gI (sim L pick s0 n).done i ∧ gI (sim L pick s0 n).done i ≤ n
  | 0, i, h => by simp only [sim]; rw [gI_rep _ _ _ h]; omega
  | n + 1, i, h => by
    have ih := sim_done hr (s0 := s0) n i h
    have hl := sim_lens (L := L) (pick := pick) (s0 := s0) n
    simp only [sim, tick]
    have hp := hr (sim L pick s0 n).st n (sim L pick s0 n).done
    split
    · simp only; omega
    · rw [gI_set (by omega)]
      split
      · rename_i e; rw [← e] at ih; omega
      · omega

theorem sim_run_succ {ι : Type} {L : List Job} {pick : ι → Nat → List Int → Int × ι} {s0 : ι} (n : Nat) : (sim L pick s0 (n + 1)).run = (sim L pick s0 n).run ++ [(pick (sim L pick s0 n).st n (sim L pick s0 n).done).1] := by
  simp only [sim, tick]; split <;> rfl
end Go.Ds

/- The plain law: what a simulated schedule keeps. Definitions in plain Lean; no program in sight. -/
namespace Go.Ds

/-- A picker that takes only jobs that are ready. -/
def Fair (L : List Job) (pick : Nat → List Int → Int) : Prop := ∀ now done, pick now done = -1 ∨ ∃ n : Nat, pick now done = n ∧ n < L.length ∧ readyJ L done now n = true

theorem best_fair {L : List Job} {ok : Nat → Bool} {key : Nat → Int} {now : Nat} {done : List Int} (h : ∀ i, ok i = true → readyJ L done now i = true) : bestF L.length ok key = -1 ∨ ∃ n : Nat, bestF L.length ok key = n ∧ n < L.length ∧ readyJ L done now n = true := by
  rcases bestF_spec ok key L.length with ⟨e, _⟩ | ⟨k, e, hk, hok, _⟩
  · exact .inl e
  · exact .inr ⟨k, e, hk, h k hok⟩

theorem edf_fair (L : List Job) : Fair L (edfPick L) := fun now done => best_fair fun _ h => h

theorem Fair.lt {L : List Job} {pick : Nat → List Int → Int} (h : Fair L pick) (now : Nat) (done : List Int) : -1 ≤ pick now done ∧ pick now done < L.length := by
  rcases h now done with e | ⟨n, e, hn, _⟩ <;> omega

/-- How often a number stands in a row. -/
def countI (x : Int) (l : List Int) : Nat := l.count x

section
variable {L : List Job} {pick : Nat → List Int → Int}
theorem simU_lens (n : Nat) : (simU L pick n).done.length = L.length ∧ (simU L pick n).fin.length = L.length ∧ (simU L pick n).run.length = n := sim_lens (L := L) (pick := fun _ now done => (pick now done, ())) (s0 := ()) n

theorem simU_succ (n : Nat) : simU L pick (n + 1) = tick L (fun _ now done => (pick now done, ())) n (simU L pick n) := rfl

theorem simU_run (n : Nat) : (simU L pick (n + 1)).run = (simU L pick n).run ++ [pick n (simU L pick n).done] := sim_run_succ (L := L) (pick := fun _ now done => (pick now done, ())) (s0 := ()) n

/-- What ran in tick t. -/
theorem simU_at {n t : Nat} (h : t < n) : gI (simU L pick n).run t = pick t (simU L pick t).done := by
  induction n with
  | zero => omega
  | succ n ih =>
    have hl := (simU_lens (L := L) (pick := pick) n).2.2
    rw [simU_run]
    unfold gI at ih ⊢
    simp only [Int.toNat_natCast, List.getD_eq_getElem?_getD] at ih ⊢
    rcases Nat.lt_succ_iff_lt_or_eq.1 h with h' | rfl
    · rw [List.getElem?_append_left (by omega)]; exact ih h'
    · rw [List.getElem?_append_right (by omega), hl]; simp

/-- What a run keeps, of job i, after k ticks. -/
structure RunInv (L : List Job) (pick : Nat → List Int → Int) (k i : Nat) : Prop where
  pos : 0 ≤ gI (simU L pick k).done i
  le : gI (simU L pick k).done i ≤ (L.getD i default).E
  cnt : ((simU L pick k).run.count (i : Int) : Int) = gI (simU L pick k).done i
  fin : (gI (simU L pick k).fin i = -1 ∧ gI (simU L pick k).done i < (L.getD i default).E) ∨
    ∃ f : Nat, gI (simU L pick k).fin i = f ∧ 1 ≤ f ∧ f ≤ k ∧ gI (simU L pick k).done i = (L.getD i default).E ∧ gI (simU L pick k).run ((f - 1 : Nat) : Int) = i ∧ ∀ t : Nat, f ≤ t → t < k → gI (simU L pick k).run t ≠ i

theorem gI_app {l : List Int} {x : Int} {t : Nat} (h : t < l.length) : gI (l ++ [x]) t = gI l t := by
  unfold gI
  simp only [Int.toNat_natCast, List.getD_eq_getElem?_getD]
  rw [List.getElem?_append_left h]
theorem gI_last {l : List Int} {x : Int} {t : Nat} (h : l.length = t) : gI (l ++ [x]) t = x := by
  unfold gI
  simp only [Int.toNat_natCast, List.getD_eq_getElem?_getD]
  rw [List.getElem?_append_right (by omega)]; simp [h]

theorem runInv (hf : Fair L pick) (hE : ∀ j ∈ L, 1 ≤ j.E) : ∀ (k i : Nat), i < L.length → RunInv L pick k i
  | 0, i, hi => by
    have hEi : 1 ≤ (L.getD i default).E := by
      rw [show L.getD i default = L[i] from by simp [List.getD_eq_getElem?_getD, hi]]
      exact hE _ (List.getElem_mem hi)
    have h0 : gI (simU L pick 0).done i = 0 := gI_rep _ _ _ hi
    have h1 : gI (simU L pick 0).fin i = -1 := gI_rep _ _ _ hi
    refine ⟨by omega, by omega, ?_, .inl ⟨h1, by omega⟩⟩
    rw [h0]; rfl
  | k + 1, i, hi => by
    have ih := runInv hf hE k i hi
    obtain ⟨l1, l2, l3⟩ := simU_lens (L := L) (pick := pick) k
    have hrun := simU_run (L := L) (pick := pick) k
    have hstep := simU_succ (L := L) (pick := pick) k
    obtain ⟨p1, p2, p3, p4⟩ := ih
    rcases hf k (simU L pick k).done with e | ⟨n, e, hn, hrd⟩
    · have hd : (simU L pick (k + 1)).done = (simU L pick k).done ∧ (simU L pick (k + 1)).fin = (simU L pick k).fin := by rw [hstep]; simp [tick, e]
      rw [e] at hrun
      refine ⟨by rw [hd.1]; exact p1, by rw [hd.1]; exact p2, ?_, ?_⟩
      · rw [hd.1, hrun, List.count_append, ← p3]
        rw [show List.count (i : Int) [-1] = 0 from by rw [List.count_eq_zero]; simp <;> omega]; try rfl
      · rw [hd.1, hd.2, hrun]
        rcases p4 with h | ⟨f, q1, q2, q3, q4, q5, q6⟩
        · exact .inl h
        · refine .inr ⟨f, q1, q2, by omega, q4, ?_, fun t h1 h2 => ?_⟩
          · rw [gI_app (by omega)]; exact q5
          · rcases Nat.lt_succ_iff_lt_or_eq.1 h2 with h' | rfl
            · rw [gI_app (by omega)]; exact q6 t h1 h'
            · rw [gI_last l3]; omega
    · rw [e] at hrun
      have hneg : ¬ (n : Int) < 0 := by omega
      have hd : (simU L pick (k + 1)).done = (simU L pick k).done.set n (gI (simU L pick k).done n + 1) ∧ (simU L pick (k + 1)).fin = if gI (simU L pick k).done n + 1 = (L.getD n default).E then (simU L pick k).fin.set n (k + 1) else (simU L pick k).fin := by
        rw [hstep]; simp [tick, e, hneg]
      simp only [readyJ, decide_eq_true_eq] at hrd
      have hdi : gI (simU L pick (k + 1)).done i = if n = i then gI (simU L pick k).done n + 1 else gI (simU L pick k).done i := by rw [hd.1, gI_set (by omega)]
      by_cases hni : n = i
      · subst hni
        rw [if_pos rfl] at hdi
        have hcnt : ((simU L pick (k + 1)).run.count (n : Int) : Int) = gI (simU L pick k).done n + 1 := by
          rw [hrun, List.count_append, ← p3]; simp
        refine ⟨by omega, by omega, by omega, ?_⟩
        by_cases hfin : gI (simU L pick k).done n + 1 = (L.getD n default).E
        · refine .inr ⟨k + 1, ?_, by omega, by omega, by omega, ?_, fun t h1 h2 => by omega⟩
          · rw [hd.2, if_pos hfin, gI_set (by omega), if_pos rfl]; rfl
          · rw [hrun, Nat.add_sub_cancel, gI_last l3]
        · refine .inl ⟨?_, by omega⟩
          rw [hd.2, if_neg hfin]
          rcases p4 with h | ⟨f, q1, q2, q3, q4, _⟩
          · exact h.1
          · omega
      · rw [if_neg hni] at hdi
        have hfi : gI (simU L pick (k + 1)).fin i = gI (simU L pick k).fin i := by
          rw [hd.2]; split
          · rw [gI_set (by omega), if_neg hni]
          · rfl
        refine ⟨by omega, by omega, ?_, ?_⟩
        · rw [hdi, hrun, List.count_append, ← p3]
          rw [show List.count (i : Int) [(n : Int)] = 0 from by rw [List.count_eq_zero]; simp <;> omega]; try rfl
        · rw [hdi, hfi, hrun]
          rcases p4 with h | ⟨f, q1, q2, q3, q4, q5, q6⟩
          · exact .inl h
          · refine .inr ⟨f, q1, q2, by omega, q4, ?_, fun t h1 h2 => ?_⟩
            · rw [gI_app (by omega)]; exact q5
            · rcases Nat.lt_succ_iff_lt_or_eq.1 h2 with h' | rfl
              · rw [gI_app (by omega)]; exact q6 t h1 h'
              · rw [gI_last l3]; omega
end
end Go.Ds

/- The plain law: earliest deadline first: its choice; its past. Definitions in plain Lean; no program in sight. -/
namespace Go.Ds

theorem gI_row' {l : List Int} {k : Nat} (h : k < l.length) : gI l k = l[k] := by simp [gI, List.getD_eq_getElem?_getD, h]

theorem simU_done_neg {L : List Job} {pick : Nat → List Int → Int} {k : Nat} (h : pick k (simU L pick k).done < 0) : (simU L pick (k + 1)).done = (simU L pick k).done := by
  rw [simU_succ]; simp [tick, h]
theorem simU_done_pos {L : List Job} {pick : Nat → List Int → Int} {k n : Nat} (h : pick k (simU L pick k).done = n) : (simU L pick (k + 1)).done = (simU L pick k).done.set n (gI (simU L pick k).done n + 1) := by
  have hneg : ¬ (n : Int) < 0 := by omega
  rw [simU_succ]; simp [tick, h, hneg]

/-- The choice of a tick, by the least key. -/
theorem choice {L : List Job} {key : Nat → Int} {pick : Nat → List Int → Int} (hp : ∀ now done, pick now done = bestF L.length (readyJ L done now) key) (hE : ∀ j ∈ L, 1 ≤ j.E) (k : Nat) (hk : k ≤ 200) :
    (pick k (simU L pick k).done = -1 ∧ ∀ j (hj : j < L.length) (hd : j < (simU L pick k).done.length), L[j].R ≤ k → (simU L pick k).done[j] = L[j].E) ∨
    ∃ n : Nat, ∃ hn : n < L.length, ∃ hd : n < (simU L pick k).done.length, pick k (simU L pick k).done = n ∧ (0 ≤ (simU L pick k).done[n] ∧ (simU L pick k).done[n] ≤ 200) ∧
      ∀ j (hj : j < L.length) (hd : j < (simU L pick k).done.length), L[j].R ≤ k → (simU L pick k).done[j] = L[j].E ∨ j = n ∨ (key n ≤ key j ∧ (j < n → key n < key j)) := by
  have hf : Fair L pick := fun now done => by rw [hp]; exact best_fair fun _ h => h
  have hlen := (simU_lens (L := L) (pick := pick) k).1
  have rdy : ∀ j (hj : j < L.length) (hd : j < (simU L pick k).done.length), L[j].R ≤ k → (simU L pick k).done[j] = L[j].E ∨ readyJ L (simU L pick k).done k j = true := by
    intro j hj hd hr
    have h1 := (runInv hf hE k j hj).le
    have gL : L.getD j default = L[j] := by simp [List.getD_eq_getElem?_getD, hj]
    rw [gL, gI_row' hd] at h1
    by_cases e : (simU L pick k).done[j] = L[j].E
    · exact .inl e
    · refine .inr ?_
      unfold readyJ
      rw [gL, gI_row' hd]
      exact decide_eq_true ⟨hr, by omega⟩
  rcases bestF_spec (readyJ L (simU L pick k).done k) key L.length with ⟨e, h⟩ | ⟨n, e, hn, hok, h1, h2⟩
  · refine .inl ⟨(hp _ _).trans e, fun j hj hd hr => ?_⟩
    rcases rdy j hj hd hr with h3 | h3
    · exact h3
    · rw [h j hj] at h3; cases h3
  · have hd : n < (simU L pick k).done.length := by omega
    have hb := sim_done (L := L) (pick := fun _ now done => (pick now done, ())) (s0 := ()) (fun _ now done => (hf.lt now done).2) k n hn
    change 0 ≤ gI (simU L pick k).done n ∧ gI (simU L pick k).done n ≤ k at hb
    rw [gI_row' hd] at hb
    refine .inr ⟨n, hn, hd, (hp _ _).trans e, ⟨hb.1, by omega⟩, fun j hj hdj hr => ?_⟩
    rcases rdy j hj hdj hr with h3 | h3
    · exact .inl h3
    · exact .inr (.inr ⟨h1 j hj h3, fun hjn => h2 j hjn h3⟩)

theorem bestF_cut {ok : Nat → Bool} {key : Nat → Int} {i : Nat} : ∀ {n : Nat}, i ≤ n → (∀ j, i ≤ j → j < n → ok j = false) → bestF n ok key = bestF i ok key
  | 0, h, _ => by rw [show i = 0 by omega]
  | n + 1, h, hh => by
    rcases Nat.lt_or_ge n i with h1 | h1
    · rw [show i = n + 1 by omega]
    · rw [bestF_succ, if_neg (fun g => by rw [hh n h1 (by omega)] at g; cases g.1)]
      exact bestF_cut h1 fun j h2 h3 => hh j h2 (by omega)

theorem bestF_congr' {ok ok' : Nat → Bool} {key key' : Nat → Int} : ∀ {n : Nat}, (∀ i, i < n → ok i = ok' i) → (∀ i, i < n → key i = key' i) → bestF n ok key = bestF n ok' key'
  | 0, _, _ => rfl
  | n + 1, h1, h2 => by
    have ih := bestF_congr' (n := n) (fun i hi => h1 i (by omega)) (fun i hi => h2 i (by omega))
    have hb := bestF_range ok' key' n
    rw [bestF_succ, bestF_succ, ih, h1 n (by omega), h2 n (by omega)]
    by_cases h0 : bestF n ok' key' < 0
    · simp [h0]
    · rw [h2 _ (show (bestF n ok' key').toNat < n + 1 by omega)]

theorem legal_R {S : List Task} {L : List Job} (h : jobsLegal S L) {i : Nat} : ∀ {j : Nat} (hj : j < L.length) (hij : i ≤ j), (L[i]'(by omega)).R ≤ L[j].R
  | 0, hj, hij => by simp [show i = 0 by omega]
  | j + 1, hj, hij => by
    rcases Nat.lt_or_ge i (j + 1) with h1 | h1
    · have ih := legal_R h (i := i) (j := j) (by omega) (by omega)
      have := (h.2.1.2 (j + 1) hj).2.2.2 (by omega)
      unfold before at this
      simp only [Nat.add_sub_cancel] at this
      omega
    · have : i = j + 1 := by omega
      subst this; exact Int.le_refl _

theorem legal_take {S : List Task} {L : List Job} (h : jobsLegal S L) (i : Nat) : jobsLegal S (L.take i) := by
  obtain ⟨h1, h2, h3, h4⟩ := h
  refine ⟨h1, ⟨by rw [List.length_take]; have := h2.1; omega, fun k hk => ?_⟩, fun k hk => ?_, fun j hj => h4 j (List.mem_of_mem_take hj)⟩
  · rw [List.length_take] at hk
    have := h2.2 k (by omega)
    simpa only [jrowAt, List.getElem_take] using this
  · rw [List.length_take] at hk
    have := h3 k (by omega)
    simp only [gapAt, List.getElem_take, List.take_take] at this ⊢
    rwa [Nat.min_eq_left (by omega)]

/-- The past of a run does not hang on what is released later. -/
theorem past {S : List Task} {L : List Job} (h : jobsLegal S L) {i : Nat} (hi : i < L.length) : ∀ m : Nat, (m : Int) ≤ L[i].R → (∀ j, j < i → gI (simU L (edfPick L) m).done j = gI (simU (L.take i) (edfPick (L.take i)) m).done j) ∧
    ((m : Int) < L[i].R → edfPick L m (simU L (edfPick L) m).done = edfPick (L.take i) m (simU (L.take i) (edfPick (L.take i)) m).done) := by
  have hlt : (L.take i).length = i := by rw [List.length_take]; omega
  have gL : ∀ j, j < i → (L.take i).getD j default = L.getD j default := fun j hj => by simp [List.getD_eq_getElem?_getD, List.getElem?_take, hj]
  have pk : ∀ m : Nat, (m : Int) < L[i].R → (∀ j, j < i → gI (simU L (edfPick L) m).done j = gI (simU (L.take i) (edfPick (L.take i)) m).done j) → edfPick L m (simU L (edfPick L) m).done = edfPick (L.take i) m (simU (L.take i) (edfPick (L.take i)) m).done := by
    intro m hm hd
    unfold edfPick
    rw [bestF_cut (i := i) (by omega), hlt]
    · refine bestF_congr' (fun j hj => ?_) fun j hj => by rw [gL j hj]
      unfold readyJ
      rw [gL j hj]
      have e := hd j hj
      unfold edfPick readyJ at e
      rw [hlt] at e
      rw [e]
    · intro j h1 h2
      refine decide_eq_false fun hh => ?_
      have := legal_R h h2 h1
      rw [show L.getD j default = L[j] from by simp [List.getD_eq_getElem?_getD, h2]] at hh
      omega
  intro m
  induction m with
  | zero =>
    intro hm
    have h0 : ∀ j, j < i → gI (simU L (edfPick L) 0).done j = gI (simU (L.take i) (edfPick (L.take i)) 0).done j := fun j hj => by
      rw [show gI (simU L (edfPick L) 0).done j = 0 from gI_rep _ _ _ (by omega), show gI (simU (L.take i) (edfPick (L.take i)) 0).done j = 0 from gI_rep _ _ _ (by omega)]
    exact ⟨h0, fun hl => pk 0 hl h0⟩
  | succ m ih =>
    intro hm
    obtain ⟨ih1, ih2⟩ := ih (by omega)
    have e := ih2 (by omega)
    have hd : ∀ j, j < i → gI (simU L (edfPick L) (m + 1)).done j = gI (simU (L.take i) (edfPick (L.take i)) (m + 1)).done j := by
      intro j hj
      rcases edf_fair (L.take i) m (simU (L.take i) (edfPick (L.take i)) m).done with e1 | ⟨n, e1, hn, _⟩
      · rw [simU_done_neg (by omega), simU_done_neg (by omega)]; exact ih1 j hj
      · rw [simU_done_pos (e.trans e1), simU_done_pos e1, gI_set, gI_set, ih1 j hj, ih1 n (by omega)]
        · rw [(simU_lens m).1]; exact hn
        · rw [(simU_lens m).1]; omega
    exact ⟨hd, fun hl => pk (m + 1) hl hd⟩
end Go.Ds

/- The plain law: priority orders and their ranks. Definitions in plain Lean; no program in sight. -/
namespace Go.Ds

/-- The rank of a task. -/
def rank (O : List Int) (t : Int) : Int := idxF (fun y => decide (y = t)) O

/-- An order names every task. -/
theorem ord_all {S : List Task} {O : List Int} (h : ordOk S O) {t : Int} (h0 : 0 ≤ t) (h1 : t < S.length) : t ∈ O := by
  refine Classical.byContradiction fun hno => ?_
  have := nodup_len S.length (t :: O) (List.nodup_cons.2 ⟨hno, h.2.2.2⟩) (fun x hx => by
    rcases List.mem_cons.1 hx with rfl | hx
    · exact ⟨h0, h1⟩
    · exact h.2.2.1 x hx)
  simp only [List.length_cons] at this
  have h2 := h.2.1
  omega

theorem rank_at {S : List Task} {O : List Int} (h : ordOk S O) {k : Nat} (hk : k < O.length) : rank O O[k] = k := by
  refine idxF_found hk (fun x hx => ?_) (by simp)
  refine decide_eq_false fun e => ?_
  obtain ⟨m, hm, e2⟩ := List.mem_take_iff_getElem.1 hx
  have := (List.getElem_inj h.2.2.2).1 (e2.trans e)
  omega

theorem rank_row {S : List Task} {O R : List Int} (h : ordOk S O) (hR : R.length = S.length) (hr : ∀ m (hm : m < O.length), gI R O[m] = m) {t : Int} (h0 : 0 ≤ t) (h1 : t < S.length) (ht : t.toNat < R.length) : R[t.toNat] = rank O t := by
  obtain ⟨m, hm, rfl⟩ := List.getElem_of_mem (ord_all h h0 h1)
  rw [rank_at h hm, ← hr m hm, gI_eq ht]
end Go.Ds

/- The plain law: jobs of the lowest priority do not disturb the others. Definitions in plain Lean; no program in sight. -/
namespace Go.Ds

section
variable {α : Type} (p : α → Bool)
/-- How many are kept among the first i. -/
def cnt (L : List α) (i : Nat) : Nat := ((L.take i).filter p).length
variable {p}
theorem cnt_yes {L : List α} {i : Nat} (h : i < L.length) (hp : p L[i] = true) : cnt p L (i + 1) = cnt p L i + 1 := by
  unfold cnt
  rw [List.take_succ_eq_append_getElem h, List.filter_append]; simp [hp]
theorem cnt_no {L : List α} {i : Nat} (h : i < L.length) (hp : p L[i] = false) : cnt p L (i + 1) = cnt p L i := by
  unfold cnt
  rw [List.take_succ_eq_append_getElem h, List.filter_append]; simp [hp]
theorem cnt_all (L : List α) : cnt p L L.length = (L.filter p).length := by unfold cnt; rw [List.take_length]
theorem cnt_mono {L : List α} {i : Nat} : ∀ {j : Nat}, i ≤ j → j ≤ L.length → cnt p L i ≤ cnt p L j
  | 0, h, _ => by rw [show i = 0 by omega]; exact Nat.le_refl _
  | j + 1, h, hj => by
    rcases Nat.lt_or_ge i (j + 1) with h1 | h1
    · have ih := cnt_mono (L := L) (i := i) (j := j) (by omega) (by omega)
      cases hp : p (L[j]'(by omega)) with
      | true => rw [cnt_yes (by omega) hp]; omega
      | false => rw [cnt_no (by omega) hp]; exact ih
    · rw [show i = j + 1 by omega]; exact Nat.le_refl _
theorem cnt_lt {L : List α} {i j : Nat} (hi : i < L.length) (hp : p L[i] = true) (hij : i < j) (hj : j ≤ L.length) : cnt p L i < cnt p L j := by
  have := cnt_mono (p := p) (L := L) (i := i + 1) hij hj
  rw [cnt_yes hi hp] at this; omega
theorem cnt_at {L : List α} {i : Nat} (hi : i < L.length) (hp : p L[i] = true) : ∃ h : cnt p L i < (L.filter p).length, (L.filter p)[cnt p L i] = L[i] := by
  have h1 : cnt p L i < (L.filter p).length := by rw [← cnt_all]; exact cnt_lt hi hp hi (Nat.le_refl _)
  refine ⟨h1, ?_⟩
  have e : L.filter p = (L.take i).filter p ++ L[i] :: (L.drop (i + 1)).filter p := by
    have : L = L.take i ++ L[i] :: L.drop (i + 1) := by rw [← List.drop_eq_getElem_cons hi, List.take_append_drop]
    conv => lhs; rw [this, List.filter_append]
    congr 1
    rw [List.filter_cons, if_pos hp]
  have : (L.filter p)[cnt p L i]? = some L[i] := by
    rw [e, List.getElem?_append_right (by unfold cnt; omega)]
    simp [cnt]
  rw [List.getElem?_eq_getElem h1] at this
  simpa using this
theorem cnt_surj {L : List α} : ∀ {m k : Nat}, m ≤ L.length → k < cnt p L m → ∃ i, ∃ h : i < L.length, i < m ∧ p L[i] = true ∧ cnt p L i = k
  | 0, k, _, h => by simp [cnt] at h
  | m + 1, k, hm, h => by
    cases hp : p (L[m]'(by omega)) with
    | true =>
      rw [cnt_yes (by omega) hp] at h
      rcases Nat.lt_succ_iff_lt_or_eq.1 h with h1 | h1
      · obtain ⟨i, hi, h2, h3, h4⟩ := cnt_surj (by omega) h1
        exact ⟨i, hi, by omega, h3, h4⟩
      · exact ⟨m, by omega, by omega, hp, h1.symm⟩
    | false =>
      rw [cnt_no (by omega) hp] at h
      obtain ⟨i, hi, h2, h3, h4⟩ := cnt_surj (by omega) h
      exact ⟨i, hi, by omega, h3, h4⟩
end

theorem best_unique {n : Nat} {ok : Nat → Bool} {key : Nat → Int} {k : Nat} (hk : k < n) (hok : ok k = true) (h1 : ∀ i, i < n → ok i = true → key k ≤ key i) (h2 : ∀ i, i < k → ok i = true → key k < key i) : bestF n ok key = k := by
  rcases bestF_spec ok key n with ⟨_, h⟩ | ⟨m, e, hm, hokm, g1, g2⟩
  · rw [h k hk] at hok; cases hok
  · rw [e]
    rcases Nat.lt_trichotomy m k with h3 | h3 | h3
    · have := h2 m h3 hokm; have := g1 k hk hok; omega
    · rw [h3]
    · have := g2 k h3 hok; have := h1 m hm hokm; omega
theorem best_none {n : Nat} {ok : Nat → Bool} {key : Nat → Int} (h : ∀ i, i < n → ok i = false) : bestF n ok key = -1 := by
  rcases bestF_spec ok key n with ⟨e, _⟩ | ⟨m, e, hm, hokm, _⟩
  · exact e
  · rw [h m hm] at hokm; cases hokm

theorem simU_fin_pos {L : List Job} {pick : Nat → List Int → Int} {k n : Nat} (h : pick k (simU L pick k).done = n) : (simU L pick (k + 1)).fin = if gI (simU L pick k).done n + 1 = (L.getD n default).E then (simU L pick k).fin.set n (k + 1) else (simU L pick k).fin := by
  have hneg : ¬ (n : Int) < 0 := by omega
  rw [simU_succ]; simp [tick, h, hneg]
theorem simU_fin_neg {L : List Job} {pick : Nat → List Int → Int} {k : Nat} (h : pick k (simU L pick k).done < 0) : (simU L pick (k + 1)).fin = (simU L pick k).fin := by
  rw [simU_succ]; simp [tick, h]

/-- Two simulations side by side: over all jobs, and over those that are kept. -/
theorem kept {L : List Job} {p : Job → Bool} {key : Job → Int} {pick pick' : Nat → List Int → Int} (hp : ∀ now done, pick now done = bestF L.length (readyJ L done now) fun i => key (L.getD i default))
    (hp' : ∀ now done, pick' now done = bestF (L.filter p).length (readyJ (L.filter p) done now) fun i => key ((L.filter p).getD i default)) (hkey : ∀ a ∈ L, ∀ b ∈ L, p a = true → p b = false → key a < key b) :
    ∀ (m i : Nat) (hi : i < L.length), p L[i] = true → gI (simU L pick m).done i = gI (simU (L.filter p) pick' m).done (cnt p L i) ∧ gI (simU L pick m).fin i = gI (simU (L.filter p) pick' m).fin (cnt p L i)
  | 0, i, hi, hpi => by
    obtain ⟨h1, _⟩ := cnt_at hi hpi
    rw [show gI (simU L pick 0).done i = 0 from gI_rep _ _ _ hi, show gI (simU (L.filter p) pick' 0).done (cnt p L i) = 0 from gI_rep _ _ _ h1, show gI (simU L pick 0).fin i = -1 from gI_rep _ _ _ hi, show gI (simU (L.filter p) pick' 0).fin (cnt p L i) = -1 from gI_rep _ _ _ h1]
    exact ⟨rfl, rfl⟩
  | m + 1, i, hi, hpi => by
    have ih := kept hp hp' hkey m
    obtain ⟨h1, h2⟩ := cnt_at hi hpi
    have gL : ∀ j (hj : j < L.length), L.getD j default = L[j] := fun j hj => by simp [List.getD_eq_getElem?_getD, hj]
    have gF : ∀ j (hj : j < (L.filter p).length), (L.filter p).getD j default = (L.filter p)[j] := fun j hj => by simp [List.getD_eq_getElem?_getD, hj]
    have ready : ∀ j (hj : j < L.length), p L[j] = true → readyJ L (simU L pick m).done m j = readyJ (L.filter p) (simU (L.filter p) pick' m).done m (cnt p L j) := by
      intro j hj hpj
      obtain ⟨g1, g2⟩ := cnt_at hj hpj
      unfold readyJ
      rw [gL j hj, gF _ g1, g2, (ih j hj hpj).1]
    have l1 := simU_lens (L := L) (pick := pick) m
    have l2 := simU_lens (L := L.filter p) (pick := pick') m
    rcases bestF_spec (readyJ L (simU L pick m).done m) (fun i => key (L.getD i default)) L.length with ⟨e, h⟩ | ⟨n, e, hn, hok, b1, b2⟩
    · -- none is ready
      have e1 := (hp m (simU L pick m).done).trans e
      have e2 : pick' m (simU (L.filter p) pick' m).done = -1 := by
        rw [hp']
        refine best_none fun k hk => ?_
        obtain ⟨j, hj, _, hpj, rfl⟩ := cnt_surj (p := p) (L := L) (Nat.le_refl _) (by rw [cnt_all]; exact hk)
        rw [← ready j hj hpj]; exact h j hj
      rw [simU_done_neg (by omega), simU_fin_neg (by omega), simU_done_neg (by omega), simU_fin_neg (by omega)]
      exact ih i hi hpi
    · have e1 := (hp m (simU L pick m).done).trans e
      cases hpn : p L[n] with
      | true =>
        obtain ⟨g1, g2⟩ := cnt_at hn hpn
        have e2 : pick' m (simU (L.filter p) pick' m).done = (cnt p L n : Nat) := by
          rw [hp']
          refine best_unique g1 (by rw [← ready n hn hpn]; exact hok) (fun k hk hrk => ?_) fun k hk hrk => ?_
          · obtain ⟨j, hj, _, hpj, rfl⟩ := cnt_surj (p := p) (L := L) (Nat.le_refl _) (by rw [cnt_all]; exact hk)
            obtain ⟨g3, g4⟩ := cnt_at hj hpj
            rw [gF _ g1, gF _ g3, g2, g4, ← gL n hn, ← gL j hj]
            exact b1 j hj (by rw [ready j hj hpj]; exact hrk)
          · obtain ⟨j, hj, _, hpj, rfl⟩ := cnt_surj (p := p) (L := L) (Nat.le_refl _) (show k < cnt p L L.length by rw [cnt_all]; omega)
            obtain ⟨g3, g4⟩ := cnt_at hj hpj
            have hjn : j < n := by
              rcases Nat.lt_or_ge j n with h3 | h3
              · exact h3
              · have := cnt_mono (p := p) h3 (by omega : j ≤ L.length); omega
            rw [gF _ g1, gF _ g3, g2, g4, ← gL n hn, ← gL j hj]
            exact b2 j hjn (by rw [ready j hj hpj]; exact hrk)
        have en := (ih n hn hpn).1
        have ei := ih i hi hpi
        rw [simU_done_pos e1, simU_fin_pos e1, simU_done_pos e2, simU_fin_pos e2, gI_set (by omega), gI_set (by omega), gL n hn, gF _ g1, g2, ← en]
        have hinj : n = i ↔ cnt p L n = cnt p L i := by
          constructor
          · rintro rfl; rfl
          · intro hc
            rcases Nat.lt_trichotomy n i with h3 | h3 | h3
            · have := cnt_lt hn hpn h3 (by omega); omega
            · exact h3
            · have := cnt_lt hi hpi h3 (by omega); omega
        by_cases h3 : n = i
        · have h4 := hinj.1 h3
          subst h3
          refine ⟨by simp, ?_⟩
          split
          · rw [gI_set (by omega), gI_set (by omega)]; simp
          · exact ei.2
        · have h4 : ¬ cnt p L n = cnt p L i := fun hc => h3 (hinj.2 hc)
          refine ⟨by rw [if_neg h3, if_neg h4]; exact ei.1, ?_⟩
          split
          · rw [gI_set (by omega), gI_set (by omega), if_neg h3, if_neg h4]; exact ei.2
          · exact ei.2
      | false =>
        have e2 : pick' m (simU (L.filter p) pick' m).done = -1 := by
          rw [hp']
          refine best_none fun k hk => ?_
          obtain ⟨j, hj, _, hpj, rfl⟩ := cnt_surj (p := p) (L := L) (Nat.le_refl _) (by rw [cnt_all]; exact hk)
          rw [← ready j hj hpj]
          cases hr : readyJ L (simU L pick m).done m j with
          | false => rfl
          | true =>
            have := b1 j hj hr
            rw [gL n hn, gL j hj] at this
            have := hkey _ (List.getElem_mem hj) _ (List.getElem_mem hn) hpj hpn
            omega
        have hni : n ≠ i := fun h3 => by subst h3; rw [hpi] at hpn; cases hpn
        have ei := ih i hi hpi
        rw [simU_done_pos e1, simU_fin_pos e1, simU_done_neg (by omega), simU_fin_neg (by omega), gI_set (by omega), if_neg hni]
        refine ⟨ei.1, ?_⟩
        split
        · rw [gI_set (by omega), if_neg hni]; exact ei.2
        · exact ei.2

theorem cnt_take {α : Type} {p : α → Bool} (L : List α) (i : Nat) : (L.filter p).take (cnt p L i) = (L.take i).filter p := by
  conv => lhs; rw [← List.take_append_drop i L, List.filter_append]
  rw [List.take_append_drop]
  exact List.take_left' rfl

def notT (low : Int) (j : Job) : Bool := decide (j.T ≠ low)

theorem lastAt_filter (at_ : Job → Int) {low u : Int} (hu : u ≠ low) (M : List Job) : lastAt at_ (M.filter (notT low)) u = lastAt at_ M u := by
  have key : ∀ (M : List Job) (f g : Int → Option Int), f u = g u → (M.filter (notT low)).foldl (fun f j => fun u => if u = j.T then some (at_ j) else f u) f u = M.foldl (fun f j => fun u => if u = j.T then some (at_ j) else f u) g u := by
    intro M
    induction M with
    | nil => intro f g h; exact h
    | cons j M ih =>
      intro f g h
      by_cases hj : j.T = low
      · rw [List.filter_cons, if_neg (by simp [notT, hj]), List.foldl_cons]
        refine ih _ _ ?_
        try simp only
        rw [if_neg (fun e => hu (e.trans hj))]
        exact h
      · rw [List.filter_cons, if_pos (by simp [notT, hj]), List.foldl_cons, List.foldl_cons]
        refine ih _ _ ?_
        simp only [h]
  exact key M _ _ rfl

theorem legal_before {S : List Task} {L : List Job} (h : jobsLegal S L) {i : Nat} : ∀ {j : Nat} (hj : j < L.length) (hij : i < j), before (L[i]'(by omega)) L[j]
  | 0, _, h => absurd h (by omega)
  | j + 1, hj, hij => by
    have hb := (h.2.1.2 (j + 1) hj).2.2.2 (by omega)
    simp only [Nat.add_sub_cancel] at hb
    rcases Nat.lt_succ_iff_lt_or_eq.1 hij with h1 | h1
    · have ih := legal_before h (i := i) (j := j) (by omega) h1
      unfold before at ih hb ⊢
      omega
    · subst h1; exact hb

theorem legal_filter {S : List Task} {L : List Job} (h : jobsLegal S L) (low : Int) : jobsLegal S (L.filter (notT low)) := by
  refine ⟨h.1, ⟨Nat.le_trans (List.length_filter_le _ _) h.2.1.1, fun k hk => ?_⟩, fun k hk => ?_, fun j hj => h.2.2.2 j (List.mem_filter.1 hj).1⟩
  · obtain ⟨i, hi, _, hpi, rfl⟩ := cnt_surj (p := notT low) (L := L) (Nat.le_refl _) (show k < cnt (notT low) L L.length by rw [cnt_all]; exact hk)
    obtain ⟨g1, g2⟩ := cnt_at hi hpi
    obtain ⟨r1, r2, r3, _⟩ := h.2.1.2 i hi
    unfold jrowAt
    rw [g2]
    refine ⟨r1, r2, r3, fun h0 => ?_⟩
    obtain ⟨j, hj, _, hpj, hc⟩ := cnt_surj (p := notT low) (L := L) (Nat.le_refl _) (show cnt (notT low) L i - 1 < cnt (notT low) L L.length by rw [cnt_all]; omega)
    obtain ⟨g3, g4⟩ := cnt_at hj hpj
    have hji : j < i := by
      rcases Nat.lt_or_ge j i with h3 | h3
      · exact h3
      · have := cnt_mono (p := notT low) h3 (by omega : j ≤ L.length); omega
    have e : (L.filter (notT low))[cnt (notT low) L i - 1]'(by omega) = L[j] := by
      rw [← g4]; congr 1; exact hc.symm
    rw [e]
    exact legal_before h hi hji
  · obtain ⟨i, hi, _, hpi, rfl⟩ := cnt_surj (p := notT low) (L := L) (Nat.le_refl _) (show k < cnt (notT low) L L.length by rw [cnt_all]; exact hk)
    obtain ⟨g1, g2⟩ := cnt_at hi hpi
    unfold gapAt
    rw [g2, cnt_take, lastAt_filter _ (by simpa [notT] using hpi)]
    exact h.2.2.1 i hi
end Go.Ds

/- The plain law: legal release patterns with jitter and without. Definitions in plain Lean; no program in sight. -/
namespace Go.Ds

theorem lastAt_congr {a b : Job → Int} {L : List Job} (h : ∀ j ∈ L, a j = b j) : lastAt a L = lastAt b L := by
  unfold lastAt
  generalize (fun _ : Int => (none : Option Int)) = f
  induction L generalizing f with
  | nil => rfl
  | cons j L ih =>
    simp only [List.foldl_cons]
    rw [h j (by simp)]
    exact ih (fun x hx => h x (by simp [hx])) _

theorem spaced_congr {a b : Job → Int} {per : Int → Int} {L : List Job} (h : ∀ j ∈ L, a j = b j) : spacedP a per L ↔ spacedP b per L := by
  unfold spacedP gapAt
  constructor <;> intro hh k hk c hc
  · have := hh k hk c (by rw [lastAt_congr fun j hj => h j (List.mem_of_mem_take hj)]; exact hc)
    rw [h _ (List.getElem_mem hk)] at this; exact this
  · have := hh k hk c (by rw [← lastAt_congr fun j hj => h j (List.mem_of_mem_take hj)]; exact hc)
    rw [← h _ (List.getElem_mem hk)] at this; exact this

theorem legal_zero (S : List Task) (L : List Job) : jitLegal S (List.replicate S.length 0) L ↔ jobsLegal S L := by
  have z : ∀ j : Job, (0 ≤ j.T ∧ j.T < S.length) → gI (List.replicate S.length 0) j.T = 0 := fun j hj => by
    exact gI_zeros _ _
  constructor
  · rintro ⟨h1, h2, h3, h4⟩
    have e : ∀ j ∈ L, arrOf S j = j.R := fun j hj => by
      have := (h3 j hj).2
      rw [z j (h2.mem hj).1] at this
      omega
    refine ⟨h1.1, h2, (spaced_congr e).1 h4, fun j hj => ?_⟩
    have := e j hj
    unfold arrOf at this
    omega
  · rintro ⟨h1, h2, h3, h4⟩
    have e : ∀ j ∈ L, arrOf S j = j.R := fun j hj => by
      have := h4 j hj
      unfold arrOf
      omega
    refine ⟨zeros_ok h1, h2, fun j hj => ?_, (spaced_congr e).2 h3⟩
    have t := gT_ok h1 (h2.mem hj).1.1 (h2.mem hj).1.2
    unfold Task.ok at t
    have := h4 j hj
    have := (h2.mem hj).2.1
    rw [e j hj, z j (h2.mem hj).1]
    omega

/-- The most jitter that a set bears. -/
def mostJ (S : List Task) : List Int := S.map fun t => t.D - t.C
theorem most_ok {S : List Task} (h : setOk S) : jitOk S (mostJ S) := by
  refine ⟨h, by simp [mostJ], fun p hp => ?_⟩
  unfold mostJ at hp
  obtain ⟨i, hi, rfl⟩ := List.getElem_of_mem hp
  simp only [List.length_zip, List.length_map] at hi
  have ht := h.2 _ (List.getElem_mem (show i < S.length by omega))
  unfold Task.ok at ht
  simp only [List.getElem_zip, List.getElem_map]
  omega
theorem legal_most {S : List Task} {J : List Int} {L : List Job} (h : jitLegal S J L) : jitLegal S (mostJ S) L := by
  obtain ⟨h1, h2, h3, h4⟩ := h
  refine ⟨most_ok h1.1, h2, fun j hj => ⟨(h3 j hj).1, (h3 j hj).2.1, ?_⟩, h4⟩
  have hm := (h2.mem hj).1
  have ht : j.T.toNat < S.length := by omega
  have hJ : j.T.toNat < J.length := by have := h1.2.1; omega
  have hp := h1.2.2 (S[j.T.toNat], J[j.T.toNat]) (by
    refine List.mem_iff_getElem.2 ⟨j.T.toNat, by simp only [List.length_zip]; omega, by simp⟩)
  simp only at hp
  have e1 : gI J j.T = J[j.T.toNat] := gI_eq hJ
  have e2 : gI (mostJ S) j.T = S[j.T.toNat].D - S[j.T.toNat].C := by
    rw [gI_eq (by simp only [mostJ, List.length_map]; exact ht)]; simp [mostJ]
  have := (h3 j hj).2.2
  rw [e1] at this
  rw [e2]
  omega
end Go.Ds

/- The plain law: earliest deadline first misses no deadline that any schedule meets. Definitions in plain Lean; no program in sight. -/
namespace Go.Ds

/-- The sum of the first n values. -/
def sumI (f : Nat → Int) : Nat → Int
  | 0 => 0
  | n + 1 => sumI f n + f n

theorem sumI_le {f g : Nat → Int} : ∀ {n : Nat}, (∀ i, i < n → f i ≤ g i) → sumI f n ≤ sumI g n
  | 0, _ => Int.le_refl _
  | n + 1, h => by
    have ih := sumI_le (n := n) fun i hi => h i (by omega)
    have := h n (by omega)
    simp only [sumI]; omega
theorem sumI_congr {f g : Nat → Int} {n : Nat} (h : ∀ i, i < n → f i = g i) : sumI f n = sumI g n :=
  Int.le_antisymm (sumI_le fun i hi => by rw [h i hi]; exact Int.le_refl _) (sumI_le fun i hi => by rw [h i hi]; exact Int.le_refl _)
theorem sumI_lt {f g : Nat → Int} : ∀ {n : Nat}, (∀ i, i < n → f i ≤ g i) → ∀ {j : Nat}, j < n → f j < g j → sumI f n < sumI g n
  | 0, _, _, hj, _ => absurd hj (by omega)
  | n + 1, h, j, hj, hl => by
    simp only [sumI]
    have h1 := h n (by omega)
    rcases Nat.lt_succ_iff_lt_or_eq.1 hj with h2 | h2
    · have := sumI_lt (n := n) (fun i hi => h i (by omega)) h2 hl; omega
    · subst h2
      have := sumI_le (n := j) fun i hi => h i (by omega)
      omega
/-- One value grows by one. -/
theorem sumI_one {f g : Nat → Int} {j : Nat} : ∀ {n : Nat}, (∀ i, i < n → g i = f i + if i = j then 1 else 0) → sumI g n = sumI f n + if j < n then 1 else 0
  | 0, _ => rfl
  | n + 1, h => by
    have ih := sumI_one (n := n) fun i hi => h i (by omega)
    simp only [sumI]
    rw [ih, h n (by omega)]
    by_cases h1 : n = j
    · subst h1; simp; omega
    · by_cases h2 : j < n
      · rw [if_pos h2, if_neg h1, if_pos (by omega)]; omega
      · rw [if_neg h2, if_neg h1, if_neg (by omega)]; omega
theorem sumI_zero {f : Nat → Int} {n : Nat} (h : ∀ i, i < n → f i = 0) : sumI f n = 0 := by
  induction n with
  | zero => rfl
  | succ n ih => simp only [sumI]; rw [ih fun i hi => h i (by omega), h n (by omega)]; rfl

/-- How many ticks from a on, of m, are free. -/
def free (A : Nat → Bool) (a : Nat) : Nat → Int
  | 0 => 0
  | m + 1 => free A a m + if A (a + m) then 1 else 0
theorem free_le {A B : Nat → Bool} {a : Nat} : ∀ {m : Nat}, (∀ t, t < a + m → A t = true → B t = true) → free A a m ≤ free B a m
  | 0, _ => Int.le_refl _
  | m + 1, h => by
    have ih := free_le (a := a) (m := m) fun t ht => h t (by omega)
    have := h (a + m) (by omega)
    simp only [free]
    cases hA : A (a + m) with
    | true => rw [this hA]; simp; omega
    | false =>
      have h0 : (0 : Int) ≤ if B (a + m) = true then 1 else 0 := by split <;> decide
      rw [if_neg (by decide)]; omega
theorem free_all {a : Nat} : ∀ m : Nat, free (fun _ => true) a m = m
  | 0 => rfl
  | m + 1 => by simp only [free]; rw [free_all m]; simp

/-- A picker that picks in free ticks only. -/
def Only (A : Nat → Bool) (pick : Nat → List Int → Int) : Prop := ∀ now done, A now = false → pick now done = -1

def doneAt (L : List Job) (pick : Nat → List Int → Int) (k i : Nat) : Int := gI (simU L pick k).done i

section
variable {L : List Job} {pick : Nat → List Int → Int}
theorem done0 {i : Nat} (hi : i < L.length) : doneAt L pick 0 i = 0 := gI_rep _ _ _ hi
theorem done_neg {k : Nat} (h : pick k (simU L pick k).done < 0) (i : Nat) : doneAt L pick (k + 1) i = doneAt L pick k i := by unfold doneAt; rw [simU_done_neg h]
theorem done_pos {k n : Nat} (h : pick k (simU L pick k).done = n) (hn : n < L.length) (i : Nat) : doneAt L pick (k + 1) i = doneAt L pick k i + if i = n then 1 else 0 := by
  unfold doneAt
  rw [simU_done_pos h, gI_set (by rw [(simU_lens k).1]; exact hn)]
  by_cases e : n = i
  · subst e; simp
  · rw [if_neg e, if_neg (fun h => e h.symm)]; omega
theorem done_mono (hf : Fair L pick) (i : Nat) {a : Nat} : ∀ m : Nat, doneAt L pick a i ≤ doneAt L pick (a + m) i
  | 0 => Int.le_refl _
  | m + 1 => by
    refine Int.le_trans (done_mono hf i m) ?_
    rcases hf (a + m) (simU L pick (a + m)).done with e | ⟨n, e, hn, _⟩
    · rw [← Nat.add_assoc, done_neg (by omega)]; exact Int.le_refl _
    · rw [← Nat.add_assoc, done_pos e hn]; split <;> omega
theorem done_mono' (hf : Fair L pick) (i : Nat) {a b : Nat} (h : a ≤ b) : doneAt L pick a i ≤ doneAt L pick b i := by
  have := done_mono hf i (a := a) (b - a); rwa [show a + (b - a) = b by omega] at this
/-- A finished job stays as it is. -/
theorem done_full (hf : Fair L pick) (hE : ∀ j ∈ L, 1 ≤ j.E) {i a b : Nat} (hi : i < L.length) (h : a ≤ b) (hd : doneAt L pick a i = (L.getD i default).E) : doneAt L pick b i = (L.getD i default).E := by
  have h1 := done_mono' hf i h
  have h2 : doneAt L pick b i ≤ _ := (runInv hf hE b i hi).le
  omega
/-- Nothing runs before its release. -/
theorem done_rel (hf : Fair L pick) {i : Nat} (hi : i < L.length) : ∀ k : Nat, (k : Int) ≤ (L.getD i default).R → doneAt L pick k i = 0
  | 0, _ => done0 hi
  | k + 1, h => by
    have ih := done_rel hf hi k (by omega)
    rcases hf k (simU L pick k).done with e | ⟨n, e, hn, hr⟩
    · rw [done_neg (by omega)]; exact ih
    · rw [done_pos e hn]
      by_cases hin : i = n
      · subst hin
        simp only [readyJ, decide_eq_true_eq] at hr
        omega
      · rw [if_neg hin]; omega
/-- Work of a set of jobs. -/
def work (P : Nat → Bool) (f : Nat → Int) (n : Nat) : Int := sumI (fun i => if P i then f i else 0) n
theorem work_neg {P : Nat → Bool} {k : Nat} (h : pick k (simU L pick k).done < 0) : work P (doneAt L pick (k + 1)) L.length = work P (doneAt L pick k) L.length :=
  sumI_congr fun i _ => by rw [done_neg h]
theorem work_pos {P : Nat → Bool} {k n : Nat} (h : pick k (simU L pick k).done = n) (hn : n < L.length) : work P (doneAt L pick (k + 1)) L.length = work P (doneAt L pick k) L.length + if P n then 1 else 0 := by
  unfold work
  cases hP : P n with
  | true =>
    rw [sumI_one (f := fun i => if P i then doneAt L pick k i else 0) (j := n), if_pos hn]
    · simp
    · intro i _
      rw [done_pos h hn]
      by_cases e : i = n
      · subst e; rw [hP]; simp
      · rw [if_neg e]; cases P i <;> simp
  | false =>
    simp only [Bool.false_eq_true, if_false, Int.add_zero]
    refine sumI_congr fun i _ => ?_
    rw [done_pos h hn]
    by_cases e : i = n
    · subst e; rw [hP]; simp
    · rw [if_neg e]; simp
/-- Work is at most what is free. -/
theorem work_le (hf : Fair L pick) {A : Nat → Bool} (hA : Only A pick) (P : Nat → Bool) (a : Nat) : ∀ m : Nat, work P (doneAt L pick (a + m)) L.length ≤ work P (doneAt L pick a) L.length + free A a m
  | 0 => by simp [free]
  | m + 1 => by
    have ih := work_le hf hA P a m
    rw [← Nat.add_assoc]
    simp only [free]
    rcases hf (a + m) (simU L pick (a + m)).done with e | ⟨n, e, hn, _⟩
    · rw [work_neg (by omega)]
      split <;> omega
    · rw [work_pos e hn]
      cases h : A (a + m) with
      | true => simp; split <;> omega
      | false => have := hA _ (simU L pick (a + m)).done h; omega
/-- Work is all that is free, where only those jobs run. -/
theorem work_eq {A : Nat → Bool} (hA : Only A pick) (P : Nat → Bool) (a : Nat) : ∀ m : Nat, (∀ t, a ≤ t → t < a + m → A t = true → ∃ n : Nat, pick t (simU L pick t).done = n ∧ n < L.length ∧ P n = true) →
    work P (doneAt L pick (a + m)) L.length = work P (doneAt L pick a) L.length + free A a m
  | 0, _ => by simp [free]
  | m + 1, h => by
    have ih := work_eq hA P a m fun t h1 h2 => h t h1 (by omega)
    rw [← Nat.add_assoc]
    simp only [free]
    cases hh : A (a + m) with
    | true =>
      obtain ⟨n, e, hn, hP⟩ := h (a + m) (by omega) (by omega) hh
      rw [work_pos e hn, hP, ih]; simp; omega
    | false =>
      rw [work_neg (by rw [hA _ _ hh]; omega), ih]; simp
end

/-- Earliest deadline first in the free ticks. -/
def EdfOn (A : Nat → Bool) (L : List Job) (pick : Nat → List Int → Int) : Prop := ∀ now done, pick now done = if A now = true then edfPick L now done else -1
theorem EdfOn.fair {A : Nat → Bool} {L : List Job} {pick : Nat → List Int → Int} (h : EdfOn A L pick) : Fair L pick := fun now done => by
  rw [h]; split
  · exact edf_fair L now done
  · exact .inl rfl
theorem EdfOn.only {A : Nat → Bool} {L : List Job} {pick : Nat → List Int → Int} (h : EdfOn A L pick) : Only A pick := fun now done hA => by rw [h, if_neg (by simp [hA])]

/-- The jobs released from a on with deadlines up to d. -/
def within (L : List Job) (a d : Nat) (i : Nat) : Bool := decide ((a : Int) ≤ (L.getD i default).R ∧ (L.getD i default).D ≤ d)

theorem least {Q : Nat → Prop} : ∀ m : Nat, Q m → ∃ a, a ≤ m ∧ Q a ∧ (a = 0 ∨ ¬ Q (a - 1))
  | 0, h => ⟨0, Nat.le_refl _, h, .inl rfl⟩
  | m + 1, h => by
    by_cases h1 : Q m
    · obtain ⟨a, h2, h3⟩ := least m h1
      exact ⟨a, by omega, h3⟩
    · exact ⟨m + 1, Nat.le_refl _, h, .inr h1⟩

/-- A miss shows an interval that is too full. -/
theorem edf_miss {A : Nat → Bool} {L : List Job} {pick : Nat → List Int → Int} (h : EdfOn A L pick) (hE : ∀ j ∈ L, 1 ≤ j.E) (hR : ∀ j ∈ L, 0 ≤ j.R) {d j : Nat} (hj : j < L.length) (hD : (L.getD j default).D ≤ d) (hm : doneAt L pick d j < (L.getD j default).E) :
    ∃ a, a ≤ d ∧ free A a (d - a) < work (within L a d) (fun i => (L.getD i default).E) L.length := by
  have hf := h.fair
  obtain ⟨a, ha, hQ, hmin⟩ := least (Q := fun a => ∀ t, a ≤ t → t < d → A t = true → ∃ n : Nat, pick t (simU L pick t).done = n ∧ n < L.length ∧ (L.getD n default).D ≤ d) d (fun t h1 h2 => by omega)
  refine ⟨a, ha, ?_⟩
  have past : ∀ i, i < L.length → (L.getD i default).D ≤ d → (L.getD i default).R < a → doneAt L pick a i = (L.getD i default).E := by
    intro i hi hDi hRi
    rcases hmin with rfl | hmin
    · have : L.getD i default ∈ L := by
        rw [show L.getD i default = L[i] from by simp [List.getD_eq_getElem?_getD, hi]]
        exact List.getElem_mem hi
      have := hR _ this
      omega
    · have ha0 : 0 < a := by
        rcases Nat.eq_zero_or_pos a with rfl | h0
        · exact absurd hQ hmin
        · exact h0
      have hx : A (a - 1) = true ∧ ¬ ∃ n : Nat, pick (a - 1) (simU L pick (a - 1)).done = n ∧ n < L.length ∧ (L.getD n default).D ≤ d := by
        apply Classical.byContradiction
        intro hn
        apply hmin
        intro t h1 h2 h3
        by_cases e : t = a - 1
        · subst e
          apply Classical.byContradiction
          intro h4; exact hn ⟨h3, h4⟩
        · exact hQ t (by omega) h2 h3
      have hpk := h (a - 1) (simU L pick (a - 1)).done
      rw [if_pos hx.1] at hpk
      have hle : doneAt L pick (a - 1) i ≤ _ := (runInv hf hE (a - 1) i hi).le
      have hfull : doneAt L pick (a - 1) i = (L.getD i default).E := by
        apply Classical.byContradiction
        intro hne
        have hrd : readyJ L (simU L pick (a - 1)).done (a - 1 : Nat) i = true := by
          unfold readyJ
          refine decide_eq_true ⟨by omega, ?_⟩
          change doneAt L pick (a - 1) i < _
          omega
        unfold edfPick at hpk
        rcases bestF_spec (readyJ L (simU L pick (a - 1)).done (a - 1 : Nat)) (fun i => (L.getD i default).D) L.length with ⟨e, h1⟩ | ⟨n, e, hn, hok, h1, _⟩
        · rw [h1 i hi] at hrd; cases hrd
        · have := h1 i hi hrd
          exact hx.2 ⟨n, hpk.trans e, hn, by omega⟩
      exact done_full hf hE hi (by omega) hfull
  have hP : ∀ t, a ≤ t → t < a + (d - a) → A t = true → ∃ n : Nat, pick t (simU L pick t).done = n ∧ n < L.length ∧ within L a d n = true := by
    intro t h1 h2 h3
    obtain ⟨n, e, hn, hDn⟩ := hQ t h1 (by omega) h3
    refine ⟨n, e, hn, decide_eq_true ⟨?_, hDn⟩⟩
    apply Classical.byContradiction
    intro hlt
    have hfull := done_full hf hE hn h1 (past n hn hDn (by omega))
    rcases hf t (simU L pick t).done with e2 | ⟨m, e2, _, hr⟩
    · omega
    · obtain rfl : m = n := by omega
      simp only [readyJ, decide_eq_true_eq] at hr
      unfold doneAt at hfull
      omega
  have hw := work_eq (L := L) (pick := pick) h.only (within L a d) a (d - a) hP
  have h0 : work (within L a d) (doneAt L pick a) L.length = 0 := by
    refine sumI_zero fun i hi => ?_
    split
    · rename_i hwi
      exact done_rel hf hi a (of_decide_eq_true hwi).1
    · rfl
  rw [show a + (d - a) = d by omega] at hw
  have hjP : within L a d j = true := by
    refine decide_eq_true ⟨?_, hD⟩
    apply Classical.byContradiction
    intro hlt
    have := done_full hf hE hj ha (past j hj hD (by omega))
    omega
  have hlt : work (within L a d) (doneAt L pick d) L.length < work (within L a d) (fun i => (L.getD i default).E) L.length := by
    refine sumI_lt (j := j) (fun i hi => ?_) hj ?_
    · split
      · exact (runInv hf hE d i hi).le
      · exact Int.le_refl _
    · simp only; rw [hjP]; simpa using hm
  omega

/-- A schedule in fewer ticks leaves one of those jobs unfinished too. -/
theorem too_full {A : Nat → Bool} {L : List Job} {pick : Nat → List Int → Int} (hf : Fair L pick) (hA : Only A pick) {a d : Nat} (ha : a ≤ d) (_hE : ∀ j ∈ L, 1 ≤ j.E)
    (h : free A a (d - a) < work (within L a d) (fun i => (L.getD i default).E) L.length) : ∃ i, i < L.length ∧ within L a d i = true ∧ doneAt L pick d i < (L.getD i default).E := by
  apply Classical.byContradiction
  intro hn
  have hw := work_le (L := L) (pick := pick) hf hA (within L a d) a (d - a)
  rw [show a + (d - a) = d by omega] at hw
  have h0 : work (within L a d) (doneAt L pick a) L.length = 0 := by
    refine sumI_zero fun i hi => ?_
    split
    · rename_i hwi
      exact done_rel hf hi a (of_decide_eq_true hwi).1
    · rfl
  have h1 : work (within L a d) (fun i => (L.getD i default).E) L.length ≤ work (within L a d) (doneAt L pick d) L.length := by
    refine sumI_le fun i hi => ?_
    split
    · rename_i hwi
      apply Classical.byContradiction
      intro hlt
      exact hn ⟨i, hi, hwi, by simp only at hlt; omega⟩
    · exact Int.le_refl _
  omega

/-- A job has finished by a time if and only if its finish time says so. -/
theorem fin_iff {L : List Job} {pick : Nat → List Int → Int} (hf : Fair L pick) (hE : ∀ j ∈ L, 1 ≤ j.E) {i m k : Nat} (hi : i < L.length) (hm : m ≤ k) :
    (0 ≤ gI (simU L pick k).fin i ∧ gI (simU L pick k).fin i ≤ m) ↔ doneAt L pick m i = (L.getD i default).E := by
  obtain ⟨_, _, _, h4⟩ := runInv hf hE k i hi
  have hle : doneAt L pick m i ≤ _ := (runInv hf hE m i hi).le
  constructor
  · rintro ⟨h1, h2⟩
    rcases h4 with ⟨h, _⟩ | ⟨f, q1, q2, q3, q4, q5, q6⟩
    · omega
    · have key : ∀ b, m + b ≤ k → doneAt L pick (m + b) i = doneAt L pick m i := by
        intro b
        induction b with
        | zero => intro _; rfl
        | succ b ih =>
          intro hb
          rw [← Nat.add_assoc]
          have hne := q6 (m + b) (by omega) (by omega)
          rw [simU_at (show m + b < k by omega)] at hne
          rcases hf (m + b) (simU L pick (m + b)).done with e | ⟨n, e, hn, _⟩
          · rw [done_neg (by omega)]; exact ih (by omega)
          · rw [done_pos e hn, if_neg (fun h => hne (by rw [e, h]))]
            rw [ih (by omega)]; omega
      have := key (k - m) (by omega)
      rw [show m + (k - m) = k by omega] at this
      rw [← this]; exact q4
  · intro hfull
    have hk := done_full hf hE hi hm hfull
    rcases h4 with ⟨_, h⟩ | ⟨f, q1, q2, q3, q4, q5, q6⟩
    · unfold doneAt at hk; omega
    · rw [q1]
      refine ⟨by omega, ?_⟩
      apply Classical.byContradiction
      intro hlt
      rw [simU_at (show f - 1 < k by omega)] at q5
      rcases hf (f - 1) (simU L pick (f - 1)).done with e | ⟨n, e, hn, hr⟩
      · omega
      · obtain rfl : n = i := by omega
        simp only [readyJ, decide_eq_true_eq] at hr
        have := done_full hf hE hi (show m ≤ f - 1 by omega) hfull
        unfold doneAt at this
        omega

/-- The jobs that miss their deadlines. -/
def lateAt (L : List Job) (fin : List Int) (i : Nat) : Bool := decide ((L.getD i default).D ≤ 120 ∧ (gI fin i < 0 ∨ (L.getD i default).D < gI fin i))
def missedL (L : List Job) (fin : List Int) : List Int := ((List.range L.length).filter (lateAt L fin)).map fun (i : Nat) => (i : Int)

theorem missed_nil {L : List Job} {fin : List Int} : missedL L fin = [] ↔ ∀ i, i < L.length → lateAt L fin i = false := by
  unfold missedL
  rw [List.map_eq_nil_iff, List.filter_eq_nil_iff]
  simp

theorem late_iff {L : List Job} {pick : Nat → List Int → Int} (hf : Fair L pick) (hE : ∀ j ∈ L, 1 ≤ j.E) {i : Nat} (hi : i < L.length) (hD : 0 ≤ (L.getD i default).D) :
    lateAt L (simU L pick 120).fin i = true ↔ (L.getD i default).D ≤ 120 ∧ doneAt L pick (L.getD i default).D.toNat i < (L.getD i default).E := by
  unfold lateAt
  rw [decide_eq_true_iff]
  refine and_congr_right fun h => ?_
  have h1 := fin_iff hf hE hi (show (L.getD i default).D.toNat ≤ 120 by omega)
  have h2 : doneAt L pick (L.getD i default).D.toNat i ≤ _ := (runInv hf hE (L.getD i default).D.toNat i hi).le
  rw [Int.toNat_of_nonneg hD] at h1
  constructor
  · intro h3
    apply Classical.byContradiction
    intro h4
    have := h1.2 (by omega)
    omega
  · intro h3
    apply Classical.byContradiction
    intro h4
    have := h1.1 (by omega)
    omega

/-- Earliest deadline first is optimal, and more free ticks do no harm. -/
theorem edf_best {A B : Nat → Bool} {L : List Job} {pick pick' : Nat → List Int → Int} (hf : Fair L pick) (hA : Only A pick) (h : EdfOn B L pick') (hAB : ∀ t, t < 120 → A t = true → B t = true)
    (hE : ∀ j ∈ L, 1 ≤ j.E) (hR : ∀ j ∈ L, 0 ≤ j.R) (hD : ∀ j ∈ L, 0 ≤ j.D) (hm : missedL L (simU L pick 120).fin = []) : missedL L (simU L pick' 120).fin = [] := by
  have gm : ∀ i, i < L.length → L.getD i default ∈ L := fun i hi => by
    rw [show L.getD i default = L[i] from by simp [List.getD_eq_getElem?_getD, hi]]
    exact List.getElem_mem hi
  rw [missed_nil] at hm ⊢
  intro i hi
  cases hl : lateAt L (simU L pick' 120).fin i with
  | false => rfl
  | true =>
    exfalso
    have hDi := hD _ (gm i hi)
    obtain ⟨h1, h2⟩ := (late_iff h.fair hE hi hDi).1 hl
    obtain ⟨a, ha, hw⟩ := edf_miss h hE hR hi (d := (L.getD i default).D.toNat) (by omega) h2
    obtain ⟨k, hk, hwk, hlt⟩ := too_full hf hA ha hE (Int.lt_of_le_of_lt (free_le fun t ht => hAB t (by omega)) hw)
    have hDk := hD _ (gm k hk)
    have hwk2 := (of_decide_eq_true hwk).2
    have hmono := done_mono' hf k (show (L.getD k default).D.toNat ≤ (L.getD i default).D.toNat by omega)
    have := hm k hk
    rw [(late_iff hf hE hk hDk).2 ⟨by omega, by omega⟩] at this
    cases this
end Go.Ds

/- The plain law: response times with jitter under fixed priorities are safe. Definitions in plain Lean; no program in sight. -/
namespace Go.Ds

theorem getD_at {L : List Job} {i : Nat} (h : i < L.length) : L.getD i default = L[i] := by simp [List.getD_eq_getElem?_getD, h]
theorem getD_mem {L : List Job} {i : Nat} (h : i < L.length) : L.getD i default ∈ L := by rw [getD_at h]; exact List.getElem_mem h

/-- Jobs of one task lie at least a period apart. -/
theorem spaced_last {at_ : Job → Int} {per : Int → Int} {L : List Job} (h : spacedP at_ per L) (hper : ∀ j ∈ L, 0 ≤ per j.T) {u : Int} : ∀ (k i : Nat) (hik : i < k) (hk : k ≤ L.length), (L[i]'(by omega)).T = u → ∃ b, lastAt at_ (L.take k) u = some b ∧ at_ (L[i]'(by omega)) ≤ b
  | 0, i, hik, _, _ => absurd hik (by omega)
  | k + 1, i, hik, hk, hu => by
    rw [lastAt_succ at_ (show k < L.length by omega)]
    dsimp only
    by_cases e : u = L[k].T
    · rw [if_pos e]
      refine ⟨_, rfl, ?_⟩
      rcases Nat.lt_succ_iff_lt_or_eq.1 hik with h1 | h1
      · obtain ⟨b, hb, hle⟩ := spaced_last h hper k i h1 (by omega) hu
        have hg := h k (by omega) b (by rw [← e]; exact hb)
        have := hper _ (List.getElem_mem (show k < L.length by omega))
        omega
      · subst h1; exact Int.le_refl _
    · rw [if_neg e]
      rcases Nat.lt_succ_iff_lt_or_eq.1 hik with h1 | h1
      · exact spaced_last h hper k i h1 (by omega) hu
      · subst h1; exact absurd hu.symm e
theorem spaced_gap {at_ : Job → Int} {per : Int → Int} {L : List Job} (h : spacedP at_ per L) (hper : ∀ j ∈ L, 0 ≤ per j.T) {i j : Nat} (hij : i < j) (hj : j < L.length) (hT : (L.getD i default).T = (L.getD j default).T) :
    at_ (L.getD i default) + per (L.getD j default).T ≤ at_ (L.getD j default) := by
  rw [getD_at (show i < L.length by omega), getD_at hj] at *
  obtain ⟨b, hb, hle⟩ := spaced_last h hper j i hij (by omega) hT
  have := h j hj b hb
  omega

theorem sumI_add {f g h : Nat → Int} {n : Nat} (e : ∀ i, i < n → h i = f i + g i) : sumI h n = sumI f n + sumI g n := by
  induction n with
  | zero => rfl
  | succ n ih => simp only [sumI]; rw [ih fun i hi => e i (by omega), e n (by omega)]; omega

/-- How many jobs of a task are released in a window. -/
def inWin (L : List Job) (k : Int) (t w : Int) (i : Nat) : Bool := decide ((L.getD i default).T = k ∧ t ≤ (L.getD i default).R ∧ (L.getD i default).R < t + w)
def cntW (L : List Job) (k t w : Int) (n : Nat) : Int := sumI (fun i => if inWin L k t w i then 1 else 0) n

theorem cntW_last {S : List Task} {J : List Int} {L : List Job} (h : jitLegal S J L) {k t w : Int} : ∀ n, n ≤ L.length → cntW L k t w n = 0 ∨
    (1 ≤ cntW L k t w n ∧ ∃ i, i < n ∧ inWin L k t w i = true ∧ t - gI J k + (cntW L k t w n - 1) * (gT S k).P ≤ arrOf S (L.getD i default))
  | 0, _ => .inl rfl
  | n + 1, hn => by
    have ih := cntW_last h (k := k) (t := t) (w := w) n (by omega)
    have hc : cntW L k t w (n + 1) = cntW L k t w n + if inWin L k t w n then 1 else 0 := rfl
    have hmem := getD_mem (L := L) (i := n) (by omega)
    have hT := h.2.1.mem hmem
    cases hw : inWin L k t w n with
    | false =>
      rw [hw] at hc
      simp only [Bool.false_eq_true, if_false, Int.add_zero] at hc
      rw [hc]
      rcases ih with e | ⟨e, i, hi, h1, h2⟩
      · exact .inl e
      · exact .inr ⟨e, i, by omega, h1, h2⟩
    | true =>
      rw [hw] at hc
      simp only [if_true] at hc
      have hwn := of_decide_eq_true hw
      have hJ := (h.2.2.1 _ hmem).2
      rw [hwn.1] at hJ hT
      rcases ih with e | ⟨e, i, hi, h1, h2⟩
      · refine .inr ⟨by omega, n, by omega, hw, ?_⟩
        rw [hc, e]
        simp only [Int.zero_add, Int.sub_self, Int.zero_mul]
        omega
      · refine .inr ⟨by omega, n, by omega, hw, ?_⟩
        have hwi := of_decide_eq_true h1
        have hg := spaced_gap h.2.2.2 (fun j hj => by
          have hj := (h.2.1.mem hj).1
          have ht := gT_ok h.1.1 hj.1 hj.2
          unfold Task.ok at ht
          unfold perOf
          omega) hi (by omega) (hwi.1.trans hwn.1.symm)
        rw [hwn.1] at hg
        rw [hc, show cntW L k t w n + 1 - 1 = cntW L k t w n - 1 + 1 by omega, Int.add_mul, Int.one_mul]
        unfold perOf at hg
        omega

theorem cntW_le {S : List Task} {J : List Int} {L : List Job} (h : jitLegal S J L) {k t w : Int} (hk : 0 ≤ k ∧ k < S.length) (hw : 1 ≤ w) : cntW L k t w L.length ≤ (w + gI J k + (gT S k).P - 1) / (gT S k).P := by
  have ht := gT_ok h.1.1 hk.1 hk.2
  have hj := gI_ok h.1 hk.1 hk.2
  unfold Task.ok at ht
  rcases cntW_last h (k := k) (t := t) (w := w) L.length (Nat.le_refl _) with e | ⟨e, i, hi, h1, h2⟩
  · rw [e]; exact Int.ediv_nonneg (by omega) (by omega)
  · have hwi := of_decide_eq_true h1
    have hJ := (h.2.2.1 _ (getD_mem hi)).2
    rw [Int.le_ediv_iff_mul_le (by omega)]
    rw [Int.sub_mul, Int.one_mul] at h2
    omega

/-- Work of the higher priorities in a window. -/
def hpWin (O : List Int) (L : List Job) (m : Nat) (t w : Int) (i : Nat) : Bool := decide (rank O (L.getD i default).T < m ∧ t ≤ (L.getD i default).R ∧ (L.getD i default).R < t + w)

theorem rank_of {S : List Task} {O : List Int} (hO : ordOk S O) {u : Int} (hu : 0 ≤ u ∧ u < S.length) : ∃ q, ∃ h : q < O.length, O[q] = u ∧ rank O u = q := by
  obtain ⟨q, hq, e⟩ := List.getElem_of_mem (ord_all hO hu.1 hu.2)
  exact ⟨q, hq, e, by rw [← e]; exact rank_at hO hq⟩

theorem sumI_mul {f : Nat → Int} {c : Int} : ∀ n, sumI (fun i => f i * c) n = sumI f n * c
  | 0 => by simp [sumI]
  | n + 1 => by simp only [sumI]; rw [sumI_mul n, Int.add_mul]

theorem hp_le {S : List Task} {J O : List Int} {L : List Job} (h : jitLegal S J L) (hO : ordOk S O) {t w c : Int} (hw : 1 ≤ w) : ∀ m, m ≤ O.length →
    work (hpWin O L m t w) (fun i => (gT S (L.getD i default).T).C) L.length + c ≤ nxt S J (O.take m) c w
  | 0, _ => by
    have : work (hpWin O L 0 t w) (fun i => (gT S (L.getD i default).T).C) L.length = 0 := by
      refine sumI_zero fun i hi => ?_
      obtain ⟨q, _, _, hr⟩ := rank_of hO (h.2.1.mem (getD_mem hi)).1
      rw [if_neg]
      unfold hpWin
      rw [decide_eq_true_iff]
      omega
    rw [this, List.take_zero, nxt_nil]; omega
  | m + 1, hm => by
    have ih := hp_le h hO (t := t) (c := c) hw m (by omega)
    have hmO : m < O.length := by omega
    have hk := hO.2.2.1 _ (List.getElem_mem hmO)
    rw [List.take_succ_eq_append_getElem hmO, nxt_append]
    have hc := cntW_le h (t := t) hk hw
    have ht := gT_ok h.1.1 hk.1 hk.2
    unfold Task.ok at ht
    have e : work (hpWin O L (m + 1) t w) (fun i => (gT S (L.getD i default).T).C) L.length = work (hpWin O L m t w) (fun i => (gT S (L.getD i default).T).C) L.length + cntW L O[m] t w L.length * (gT S O[m]).C := by
      unfold work cntW
      rw [← sumI_mul]
      refine sumI_add fun i hi => ?_
      obtain ⟨q, hq, e1, hr⟩ := rank_of hO (h.2.1.mem (getD_mem hi)).1
      dsimp only
      unfold hpWin inWin
      rw [hr]
      by_cases hqm : q = m
      · subst hqm
        rw [e1]
        by_cases hwi : t ≤ (L.getD i default).R ∧ (L.getD i default).R < t + w
        · rw [if_pos (by rw [decide_eq_true_iff]; exact ⟨by omega, hwi⟩), if_neg (by rw [decide_eq_true_iff]; omega), if_pos (by rw [decide_eq_true_iff]; exact ⟨rfl, hwi⟩)]; omega
        · rw [if_neg (by rw [decide_eq_true_iff]; exact fun g => hwi g.2), if_neg (by rw [decide_eq_true_iff]; omega), if_neg (by rw [decide_eq_true_iff]; exact fun g => hwi g.2)]; omega
      · have hne : (L.getD i default).T ≠ O[m] := by
          intro e2
          rw [← e1] at e2
          exact hqm ((List.getElem_inj hO.2.2.2).1 e2)
        rw [if_neg (c := decide ((L.getD i default).T = O[m] ∧ _) = true) (by rw [decide_eq_true_iff]; exact fun g => hne g.1)]
        by_cases hwi : (q : Int) < m ∧ t ≤ (L.getD i default).R ∧ (L.getD i default).R < t + w
        · rw [if_pos (by rw [decide_eq_true_iff]; omega), if_pos (by rw [decide_eq_true_iff]; exact hwi)]; omega
        · rw [if_neg (by rw [decide_eq_true_iff]; omega), if_neg (by rw [decide_eq_true_iff]; exact hwi)]; omega
    have := Int.mul_le_mul_of_nonneg_right hc (show 0 ≤ (gT S O[m]).C by omega)
    omega

/-- The picker of fixed priorities. -/
def FixedOn (O : List Int) (L : List Job) (pick : Nat → List Int → Int) : Prop := ∀ now done, pick now done = bestF L.length (readyJ L done now) fun i => rank O (L.getD i default).T
theorem FixedOn.fair {O : List Int} {L : List Job} {pick : Nat → List Int → Int} (h : FixedOn O L pick) : Fair L pick := fun now done => by rw [h]; exact best_fair fun _ h => h

/-- Every job has finished by its response time after its arrival. -/
theorem fp_safe {S : List Task} {J O : List Int} {L : List Job} {pick : Nat → List Int → Int} (h : jitLegal S J L) (hO : ordOk S O) (hp : FixedOn O L pick) (hr : ∀ k, 0 ≤ k → k < (S.length : Int) → 0 ≤ gI (resps S J O O.length) k) :
    ∀ (j : Nat), j < L.length → doneAt L pick (arrOf S (L.getD j default) + gI (resps S J O O.length) (L.getD j default).T).toNat j = (L.getD j default).E := by
  have hf := hp.fair
  have hE : ∀ x ∈ L, 1 ≤ x.E := fun x hx => (h.2.1.mem hx).2.2.1
  intro j
  induction j using Nat.strongRecOn with
  | _ j ih =>
  intro hj
  have hmem := getD_mem hj
  obtain ⟨hT, hR, hE1, hE2⟩ := h.2.1.mem hmem
  obtain ⟨hD1, hJ1, hJ2⟩ := h.2.2.1 _ hmem
  have ht := gT_ok h.1.1 hT.1 hT.2
  unfold Task.ok at ht
  obtain ⟨m, hm, e1, e2⟩ := resps_get (J := J) hO hT.1 hT.2
  have hrk : rank O (L.getD j default).T = m := by rw [← e1]; exact rank_at hO hm
  have hin : Inst S J (O.take m) (L.getD j default).T := by rw [← e1]; exact inst_take h.1 hO hm
  have hpos := hr _ hT.1 hT.2
  rw [e2] at hpos ⊢
  rcases respOf_char hin with ⟨e, _⟩ | ⟨w, ⟨w1, w2, w3⟩, e, _⟩
  · omega
  rw [e]
  have harr : 0 ≤ arrOf S (L.getD j default) := by unfold arrOf; omega
  -- jobs of the same task before this one have finished
  have hprev : ∀ i, i < j → (L.getD i default).T = (L.getD j default).T → ∀ t : Nat, (L.getD j default).R ≤ t → doneAt L pick t i = (L.getD i default).E := by
    intro i hi hTi t htt
    have hii := ih i hi (by omega)
    refine done_full hf hE (by omega) ?_ hii
    have hg := spaced_gap h.2.2.2 (fun x hx => by
      have hx := (h.2.1.mem hx).1
      have hx2 := gT_ok h.1.1 hx.1 hx.2
      unfold Task.ok at hx2
      unfold perOf
      omega) hi hj hTi
    unfold perOf at hg
    rw [hTi, e2, e]
    omega
  apply Classical.byContradiction
  intro hne
  obtain ⟨R, hReq⟩ := Int.eq_ofNat_of_zero_le hR.1
  have hReq' : (L.getD j default).R = (R : Int) := hReq
  -- the start of the busy time
  obtain ⟨t0, ht0, hQ, hmin⟩ := least (Q := fun a => ∀ t, a ≤ t → t < R → ∃ n : Nat, pick t (simU L pick t).done = n ∧ n < L.length ∧ rank O (L.getD n default).T < m) R (fun t h1 h2 => by omega)
  have past : ∀ i, i < L.length → rank O (L.getD i default).T < m → (L.getD i default).R < t0 → doneAt L pick t0 i = (L.getD i default).E := by
    intro i hi hri hRi
    have hRi0 := (h.2.1.mem (getD_mem hi)).2.1
    rcases hmin with rfl | hmin
    · omega
    · have ha0 : 0 < t0 := by omega
      have hx : ¬ ∃ n : Nat, pick (t0 - 1) (simU L pick (t0 - 1)).done = n ∧ n < L.length ∧ rank O (L.getD n default).T < m := by
        intro hn
        apply hmin
        intro t h1 h2
        by_cases e : t = t0 - 1
        · subst e; exact hn
        · exact hQ t (by omega) h2
      have hpk := hp (t0 - 1) (simU L pick (t0 - 1)).done
      have hle : doneAt L pick (t0 - 1) i ≤ _ := (runInv hf hE (t0 - 1) i hi).le
      have hfull : doneAt L pick (t0 - 1) i = (L.getD i default).E := by
        apply Classical.byContradiction
        intro hne
        have hrd : readyJ L (simU L pick (t0 - 1)).done (t0 - 1 : Nat) i = true := by
          unfold readyJ
          refine decide_eq_true ⟨by omega, ?_⟩
          change doneAt L pick (t0 - 1) i < _
          omega
        rcases bestF_spec (readyJ L (simU L pick (t0 - 1)).done (t0 - 1 : Nat)) (fun i => rank O (L.getD i default).T) L.length with ⟨e, h1⟩ | ⟨n, e, hn, hok, h1, _⟩
        · rw [h1 i hi] at hrd; cases hrd
        · have := h1 i hi hrd
          exact hx ⟨n, hpk.trans e, hn, by omega⟩
      exact done_full hf hE hi (by omega) hfull
  obtain ⟨W, hW⟩ := Int.eq_ofNat_of_zero_le (show 0 ≤ w by omega)
  subst hW
  have hend : t0 + W ≤ (arrOf S (L.getD j default) + (W + gI J (L.getD j default).T)).toNat ∨ True := .inr trivial
  -- it is not finished at the end of the window either
  have hnot : doneAt L pick (t0 + W) j < (L.getD j default).E := by
    have hle : doneAt L pick (t0 + W) j ≤ _ := (runInv hf hE (t0 + W) j hj).le
    apply Classical.byContradiction
    intro hge
    apply hne
    refine done_full hf hE hj ?_ (show doneAt L pick (t0 + W) j = _ by omega)
    omega
  have hP : ∀ t, t0 ≤ t → t < t0 + W → (fun _ => true) t = true → ∃ n : Nat, pick t (simU L pick t).done = n ∧ n < L.length ∧ (hpWin O L m t0 W n || decide (n = j)) = true := by
    intro t h1 h2 _
    have hpast : ∀ n, n < L.length → pick t (simU L pick t).done = n → rank O (L.getD n default).T < m → hpWin O L m t0 W n = true := by
      intro n hn hpn hrn
      refine decide_eq_true ⟨hrn, ?_⟩
      rcases hf t (simU L pick t).done with e | ⟨n', e, hn', hrd⟩
      · omega
      · obtain rfl : n' = n := by omega
        simp only [readyJ, decide_eq_true_eq] at hrd
        refine ⟨?_, by omega⟩
        apply Classical.byContradiction
        intro hlt
        have := done_full hf hE hn h1 (past n' hn hrn (by omega))
        unfold doneAt at this
        omega
    by_cases htR : t < R
    · obtain ⟨n, en, hn, hrn⟩ := hQ t h1 htR
      exact ⟨n, en, hn, by rw [hpast n hn en hrn]; rfl⟩
    · have hrdj : readyJ L (simU L pick t).done t j = true := by
        unfold readyJ
        refine decide_eq_true ⟨by omega, ?_⟩
        have := done_mono' hf j (show t ≤ t0 + W by omega)
        unfold doneAt at this hnot
        omega
      have hpk := hp t (simU L pick t).done
      rcases bestF_spec (readyJ L (simU L pick t).done t) (fun i => rank O (L.getD i default).T) L.length with ⟨e, h3⟩ | ⟨n, en, hn, hok, h3, h4⟩
      · rw [h3 j hj] at hrdj; cases hrdj
      · have hpn := hpk.trans en
        have hle := h3 j hj hrdj
        refine ⟨n, hpn, hn, ?_⟩
        rcases Int.lt_or_le (rank O (L.getD n default).T) m with h5 | h5
        · rw [hpast n hn hpn h5]; rfl
        · have hnj : n = j := by
            rcases Nat.lt_trichotomy n j with h6 | h6 | h6
            · obtain ⟨q, hq, q1, q2⟩ := rank_of hO (h.2.1.mem (getD_mem hn)).1
              have hqm : q = m := by rw [q2] at h5 hle; omega
              have hTn : (L.getD n default).T = (L.getD j default).T := by rw [← q1, ← e1]; subst hqm; rfl
              have := hprev n h6 hTn t (by omega)
              simp only [readyJ, decide_eq_true_eq] at hok
              unfold doneAt at this
              omega
            · exact h6
            · have := h4 j h6 hrdj; omega
          simp [hnj]
  have honly : Only (fun _ => true) pick := fun now done hA => by cases hA
  have hwk := work_eq (L := L) (pick := pick) honly (fun i => hpWin O L m t0 W i || decide (i = j)) t0 W hP
  rw [free_all] at hwk
  have h0 : work (fun i => hpWin O L m t0 W i || decide (i = j)) (doneAt L pick t0) L.length = 0 := by
    refine sumI_zero fun i hi => ?_
    split
    · rename_i hwi
      refine done_rel hf hi t0 ?_
      rw [Bool.or_eq_true] at hwi
      rcases hwi with h1 | h1
      · exact (of_decide_eq_true h1).2.1
      · rw [of_decide_eq_true h1]; omega
    · rfl
  have hlt : work (fun i => hpWin O L m t0 W i || decide (i = j)) (doneAt L pick (t0 + W)) L.length < work (hpWin O L m t0 W) (fun i => (gT S (L.getD i default).T).C) L.length + (gT S (L.getD j default).T).C := by
    have hone : sumI (fun i => (if hpWin O L m t0 W i then (gT S (L.getD i default).T).C else 0) + if i = j then (gT S (L.getD j default).T).C else 0) L.length = work (hpWin O L m t0 W) (fun i => (gT S (L.getD i default).T).C) L.length + (gT S (L.getD j default).T).C := by
      rw [sumI_add (f := fun i => if hpWin O L m t0 W i then (gT S (L.getD i default).T).C else 0) (g := fun i => if i = j then (gT S (L.getD j default).T).C else 0) (fun _ _ => rfl)]
      unfold work
      congr 1
      have : ∀ n, sumI (fun i => if i = j then (gT S (L.getD j default).T).C else 0) n = if j < n then (gT S (L.getD j default).T).C else 0 := by
        intro n
        induction n with
        | zero => rfl
        | succ n ihn =>
          simp only [sumI]
          rw [ihn]
          by_cases h1 : n = j
          · rw [if_pos h1, if_neg (by omega), if_pos (by omega)]; omega
          · by_cases h2 : j < n
            · rw [if_pos h2, if_neg h1, if_pos (by omega)]; omega
            · rw [if_neg h2, if_neg h1, if_neg (by omega)]; rfl
      rw [this, if_pos hj]
    rw [← hone]
    have hjr : hpWin O L m t0 W j = false := decide_eq_false fun g => by omega
    refine sumI_lt (j := j) (fun i hi => ?_) hj ?_
    · have hEi := (h.2.1.mem (getD_mem hi)).2.2
      have hle : doneAt L pick (t0 + W) i ≤ _ := (runInv hf hE (t0 + W) i hi).le
      have hco : costOf S (L.getD i default).T = (gT S (L.getD i default).T).C := rfl
      dsimp only
      by_cases h1 : i = j
      · subst h1
        rw [if_pos (show (hpWin O L m t0 W i || decide (i = i)) = true by simp), if_neg (show ¬ hpWin O L m t0 W i = true by rw [hjr]; decide), if_pos rfl]
        unfold doneAt at hle ⊢
        omega
      · by_cases hw : hpWin O L m t0 W i = true
        · rw [if_pos (show (hpWin O L m t0 W i || decide (i = j)) = true by rw [hw]; rfl), if_pos hw, if_neg h1]
          unfold doneAt at hle ⊢
          omega
        · rw [if_neg (show ¬ (hpWin O L m t0 W i || decide (i = j)) = true by rw [Bool.or_eq_true, decide_eq_true_iff]; exact fun g => g.elim hw h1), if_neg hw, if_neg h1]
          omega
    · have hco : costOf S (L.getD j default).T = (gT S (L.getD j default).T).C := rfl
      dsimp only
      rw [if_pos (show (hpWin O L m t0 W j || decide (j = j)) = true by simp), if_neg (show ¬ hpWin O L m t0 W j = true by rw [hjr]; decide), if_pos rfl]
      omega
  have hle := hp_le h hO (t := t0) (w := W) (c := (gT S (L.getD j default).T).C) (by omega) m (by omega)
  omega

/-- Finish times are within the response times, and nothing is missed. -/
theorem fp_fin {S : List Task} {J O : List Int} {L : List Job} {pick : Nat → List Int → Int} (h : jitLegal S J L) (hO : ordOk S O) (hp : FixedOn O L pick) (hr : ∀ k, 0 ≤ k → k < (S.length : Int) → 0 ≤ gI (resps S J O O.length) k) :
    (∀ i, i < L.length → 0 ≤ gI (simU L pick 120).fin i → gI (simU L pick 120).fin i - arrOf S (L.getD i default) ≤ gI (resps S J O O.length) (L.getD i default).T) ∧ missedL L (simU L pick 120).fin = [] := by
  have hf := hp.fair
  have hE : ∀ x ∈ L, 1 ≤ x.E := fun x hx => (h.2.1.mem hx).2.2.1
  have main := fp_safe h hO hp hr
  have bounds : ∀ i, i < L.length → 0 ≤ arrOf S (L.getD i default) ∧ 0 ≤ gI (resps S J O O.length) (L.getD i default).T ∧ arrOf S (L.getD i default) + gI (resps S J O O.length) (L.getD i default).T ≤ (L.getD i default).D := by
    intro i hi
    have hmem := getD_mem hi
    have hT := (h.2.1.mem hmem).1
    obtain ⟨hD1, _⟩ := h.2.2.1 _ hmem
    obtain ⟨m, hm, e1, e2⟩ := resps_get (J := J) hO hT.1 hT.2
    have hin : Inst S J (O.take m) (L.getD i default).T := by rw [← e1]; exact inst_take h.1 hO hm
    have hpos := hr _ hT.1 hT.2
    have hb := respOf_bounds hin (by rw [← e2]; exact hpos)
    rw [← e2] at hb
    unfold arrOf
    omega
  constructor
  · intro i hi h0
    obtain ⟨b1, b2, b3⟩ := bounds i hi
    by_cases hm : (arrOf S (L.getD i default) + gI (resps S J O O.length) (L.getD i default).T).toNat ≤ 120
    · have := (fin_iff hf hE hi hm).2 (main i hi)
      omega
    · rcases (runInv hf hE 120 i hi).fin with ⟨e, _⟩ | ⟨f, e, _, hf120, _⟩ <;> omega
  · rw [missed_nil]
    intro i hi
    obtain ⟨b1, b2, b3⟩ := bounds i hi
    cases hl : lateAt L (simU L pick 120).fin i with
    | false => rfl
    | true =>
      exfalso
      obtain ⟨_, h2⟩ := (late_iff hf hE hi (by omega)).1 hl
      have := done_full hf hE hi (show (arrOf S (L.getD i default) + gI (resps S J O O.length) (L.getD i default).T).toNat ≤ (L.getD i default).D.toNat by omega) (main i hi)
      omega
end Go.Ds

/- The plain law: checking a schedule. Definitions in plain Lean; no program in sight. -/
namespace Go.Ds

/-- A job is late at the end of a tick. -/
def lateNow (L : List Job) (now : Nat) (done : List Int) : Bool := (List.range L.length).any fun i => decide ((L.getD i default).D = now + 1 ∧ gI done i < (L.getD i default).E)
def tickDone (done : List Int) (e : Int) : List Int := if 0 ≤ e then done.set e.toNat (gI done e + 1) else done
/-- What the checker says of a tick. -/
def chkCode (L : List Job) (now : Nat) (done : List Int) (e : Int) : Int :=
  if e ≠ -1 ∧ ¬ ((0 ≤ e ∧ e ≤ (L.length : Int) - 1) ∧ readyJ L done now e.toNat = true) then 3
  else if e = -1 ∧ 0 ≤ edfPick L now done then 4
  else if 0 ≤ e ∧ (L.getD (edfPick L now done).toNat default).D < (L.getD e.toNat default).D then 5
  else if lateNow L now (tickDone done e) = true then 6 else 0
def chkDone (L : List Job) (run : List Int) : Nat → List Int
  | 0 => List.replicate L.length 0
  | k + 1 => tickDone (chkDone L run k) (gI run k)
def codeAt (L : List Job) (run : List Int) (k : Nat) : Int := chkCode L k (chkDone L run k) (gI run k)

/-- What the checker answers. -/
def ChkP (L : List Job) (run : List Int) (c a : Int) : Prop := (c = 0 ∧ a = 0 ∧ ∀ t, t < 120 → codeAt L run t = 0) ∨ ∃ t : Nat, t < 120 ∧ c = codeAt L run t ∧ c ≠ 0 ∧ a = t ∧ ∀ u, u < t → codeAt L run u = 0
theorem ChkP.same {L : List Job} {run : List Int} {c a c' a' : Int} (h : ChkP L run c a) (h' : ChkP L run c' a') : c = c' ∧ a = a' := by
  rcases h with ⟨h1, h2, h3⟩ | ⟨t, h1, h2, h3, h4, h5⟩ <;> rcases h' with ⟨g1, g2, g3⟩ | ⟨u, g1, g2, g3, g4, g5⟩
  · omega
  · exact absurd (g2.trans (h3 u g1)) g3
  · exact absurd (h2.trans (g3 t h1)) h3
  · rcases Nat.lt_trichotomy t u with h | h | h
    · exact absurd (h2.trans (g5 t h)) h3
    · subst h; exact ⟨by omega, by omega⟩
    · exact absurd (g2.trans (h5 u h)) g3
/-- The whole answer. -/
def ChkR (S : List Task) (L : List Job) (run : List Int) (c a : Int) : Prop := (¬ jobsLegal S L ∧ c = 1 ∧ a = 0) ∨ (jobsLegal S L ∧ run.length ≠ 120 ∧ c = 2 ∧ a = 0) ∨ (jobsLegal S L ∧ run.length = 120 ∧ ChkP L run c a)
theorem ChkR.same {S : List Task} {L : List Job} {run : List Int} {c a c' a' : Int} (h : ChkR S L run c a) (h' : ChkR S L run c' a') : c = c' ∧ a = a' := by
  rcases h with ⟨h1, h2, h3⟩ | ⟨h1, h2, h3, h4⟩ | ⟨h1, h2, h3⟩ <;> rcases h' with ⟨g1, g2, g3⟩ | ⟨g1, g2, g3, g4⟩ | ⟨g1, g2, g3⟩
  · exact ⟨by omega, by omega⟩
  · exact absurd g1 h1
  · exact absurd g1 h1
  · exact absurd h1 g1
  · exact ⟨by omega, by omega⟩
  · exact absurd g2 h2
  · exact absurd h1 g1
  · exact absurd h2 g2
  · exact h3.same g3

theorem chkCode_range (L : List Job) (now : Nat) (done : List Int) (e : Int) : chkCode L now done e = 0 ∨ (3 ≤ chkCode L now done e ∧ chkCode L now done e ≤ 6) := by
  unfold chkCode
  split
  · omega
  · split
    · omega
    · split
      · omega
      · split <;> omega
theorem ChkR.range {S : List Task} {L : List Job} {run : List Int} {c a : Int} (h : ChkR S L run c a) : (c = 0 ∨ (1 ≤ c ∧ c ≤ 6)) ∧ 0 ≤ a ∧ a < 120 ∧ (c = 0 → a = 0) := by
  rcases h with ⟨h1, h2, h3⟩ | ⟨h1, h2, h3, h4⟩ | ⟨h1, h2, ⟨h3, h4, h5⟩ | ⟨t, h3, h4, h5, h6, h7⟩⟩
  · omega
  · omega
  · omega
  · have : c = chkCode _ _ _ _ := h4
    rcases chkCode_range L t (chkDone L run t) (gI run t) with e | e <;> omega

theorem chkDone_length (L : List Job) (run : List Int) : ∀ k, (chkDone L run k).length = L.length
  | 0 => by simp [chkDone]
  | k + 1 => by
    simp only [chkDone, tickDone]
    split
    · rw [List.length_set]; exact chkDone_length L run k
    · exact chkDone_length L run k

theorem lateNow_iff {L : List Job} {now : Nat} {done : List Int} : lateNow L now done = true ↔ ∃ i, i < L.length ∧ (L.getD i default).D = now + 1 ∧ gI done i < (L.getD i default).E := by
  unfold lateNow
  simp only [List.any_eq_true, List.mem_range, decide_eq_true_eq]

/-- The checker over a run of earliest deadline first. -/
theorem chk_edf {L : List Job} : ∀ k, k ≤ 120 → chkDone L (simU L (edfPick L) 120).run k = (simU L (edfPick L) k).done
  | 0, _ => rfl
  | k + 1, h => by
    have ih := chk_edf (L := L) k (by omega)
    simp only [chkDone]
    rw [ih, simU_at (show k < 120 by omega)]
    unfold tickDone
    rcases edf_fair L k (simU L (edfPick L) k).done with e | ⟨n, e, hn, _⟩
    · rw [simU_done_neg (by omega), if_neg (by omega)]
    · rw [simU_done_pos e, e, if_pos (by omega)]; simp
theorem code_edf {L : List Job} {k : Nat} (h : k < 120) : codeAt L (simU L (edfPick L) 120).run k = if lateNow L k (simU L (edfPick L) (k + 1)).done = true then 6 else 0 := by
  have e1 := chk_edf (L := L) k (by omega)
  have e2 := chk_edf (L := L) (k + 1) (by omega)
  simp only [chkDone] at e2
  unfold codeAt chkCode
  rw [e2, e1, simU_at h]
  rcases edf_fair L k (simU L (edfPick L) k).done with e | ⟨n, e, hn, hr⟩
  · rw [e, if_neg (fun g => g.1 rfl), if_neg (fun g => by have := g.2; omega), if_neg (fun g => by have := g.1; omega)]
  · rw [e, if_neg, if_neg (fun g => by have := g.1; omega), if_neg (fun g => by have := g.2; omega)]
    rintro ⟨_, g⟩
    exact g ⟨by omega, by simpa using hr⟩

theorem jl_E {S : List Task} {L : List Job} (h : jobsLegal S L) : ∀ j ∈ L, 1 ≤ j.E := fun _ hj => (h.2.1.mem hj).2.2.1
theorem jl_R {S : List Task} {L : List Job} (h : jobsLegal S L) : ∀ j ∈ L, 0 ≤ j.R := fun _ hj => (h.2.1.mem hj).2.1.1
theorem jl_D {S : List Task} {L : List Job} (h : jobsLegal S L) : ∀ j ∈ L, 1 ≤ j.D ∧ j.D ≤ 131 := fun j hj => by
  have h1 := h.2.1.mem hj
  have h2 := h.2.2.2 j hj
  have h3 := gT_ok h.1 h1.1.1 h1.1.2
  unfold Task.ok at h3
  omega

/-- The simulated schedule is accepted if and only if nothing is missed. -/
theorem chk_edf_iff {S : List Task} {L : List Job} (h : jobsLegal S L) {c a : Int} (hc : ChkR S L (simU L (edfPick L) 120).run c a) : (c = 0 ↔ missedL L (simU L (edfPick L) 120).fin = []) ∧ (c = 0 ∨ c = 6) := by
  have hlen := (simU_lens (L := L) (pick := edfPick L) 120).2.2
  rcases hc with ⟨h1, _⟩ | ⟨_, h2, _⟩ | ⟨_, _, hP⟩
  · exact absurd h h1
  · exact absurd hlen h2
  have hE := jl_E h
  have gm : ∀ i, i < L.length → L.getD i default ∈ L := fun i hi => by
    rw [show L.getD i default = L[i] from by simp [List.getD_eq_getElem?_getD, hi]]
    exact List.getElem_mem hi
  have key : (∀ t, t < 120 → codeAt L (simU L (edfPick L) 120).run t = 0) ↔ missedL L (simU L (edfPick L) 120).fin = [] := by
    rw [missed_nil]
    constructor
    · intro hall i hi
      cases hl : lateAt L (simU L (edfPick L) 120).fin i with
      | false => rfl
      | true =>
        exfalso
        have hD := jl_D h _ (gm i hi)
        obtain ⟨h1, h2⟩ := (late_iff (edf_fair L) hE hi (by omega)).1 hl
        have hk := hall ((L.getD i default).D.toNat - 1) (by omega)
        rw [code_edf (by omega), show (L.getD i default).D.toNat - 1 + 1 = (L.getD i default).D.toNat by omega] at hk
        split at hk
        · cases hk
        · rename_i hn
          exact hn (lateNow_iff.2 ⟨i, hi, by omega, h2⟩)
    · intro hall t ht
      rw [code_edf ht]
      split
      · rename_i hl
        exfalso
        obtain ⟨i, hi, h1, h2⟩ := lateNow_iff.1 hl
        have := hall i hi
        rw [(late_iff (edf_fair L) hE hi (by omega)).2 ⟨by omega, by
          rw [show (L.getD i default).D.toNat = t + 1 by omega]; exact h2⟩] at this
        cases this
      · rfl
  rcases hP with ⟨h1, h2, h3⟩ | ⟨t, h1, h2, h3, h4, h5⟩
  · exact ⟨⟨fun _ => key.1 h3, fun _ => h1⟩, .inl h1⟩
  · have h6 : c = 6 := by
      rw [code_edf h1] at h2
      split at h2
      · exact h2
      · exact absurd h2 h3
    refine ⟨⟨fun h0 => absurd h0 h3, fun hm => ?_⟩, .inr h6⟩
    exact h2.trans (key.2 hm t h1)

/-- A tick that idles though a job is ready is found. -/
theorem chk_tamper {S : List Task} {L : List Job} (h : jobsLegal S L) {a : Int} (hc : ChkR S L (simU L (edfPick L) 120).run 0 a) {t : Nat} (ht : t < 120) (hr : 0 ≤ gI (simU L (edfPick L) 120).run t) {c b : Int} (hd : ChkR S L ((simU L (edfPick L) 120).run.set t (-1)) c b) : c = 4 ∧ b = t := by
  have hlen := (simU_lens (L := L) (pick := edfPick L) 120).2.2
  have hall : ∀ u, u < 120 → codeAt L (simU L (edfPick L) 120).run u = 0 := by
    rcases hc with ⟨h1, _⟩ | ⟨_, h2, _⟩ | ⟨_, _, ⟨_, _, h3⟩ | ⟨u, h1, h2, h3, _⟩⟩
    · exact absurd h h1
    · exact absurd hlen h2
    · exact h3
    · exact absurd rfl h3
  have hsame : ∀ u, u ≤ t → chkDone L ((simU L (edfPick L) 120).run.set t (-1)) u = chkDone L (simU L (edfPick L) 120).run u := by
    intro u
    induction u with
    | zero => intro _; rfl
    | succ u ih =>
      intro hu
      simp only [chkDone]
      rw [ih (by omega), gI_set (by omega), if_neg (by omega)]
  have hcode : ∀ u, u < t → codeAt L ((simU L (edfPick L) 120).run.set t (-1)) u = 0 := by
    intro u hu
    unfold codeAt
    rw [hsame u (by omega), gI_set (by omega), if_neg (by omega)]
    exact hall u (by omega)
  have h4 : codeAt L ((simU L (edfPick L) 120).run.set t (-1)) t = 4 := by
    unfold codeAt chkCode
    rw [hsame t (Nat.le_refl _), gI_set (by omega), if_pos rfl, chk_edf t (by omega), if_neg (fun g => g.1 rfl), if_pos]
    refine ⟨rfl, ?_⟩
    rw [simU_at ht] at hr; exact hr
  have hP : ChkP L ((simU L (edfPick L) 120).run.set t (-1)) 4 t := .inr ⟨t, ht, h4.symm, by omega, rfl, hcode⟩
  rcases hd with ⟨h1, _⟩ | ⟨_, h2, _⟩ | ⟨_, _, h3⟩
  · exact absurd h h1
  · rw [List.length_set] at h2; exact absurd hlen h2
  · exact h3.same hP

/-- What an accepted schedule keeps. -/
theorem chk_inv {L : List Job} {run : List Int} (hl : run.length = 120) (hE : ∀ j ∈ L, 1 ≤ j.E) (hall : ∀ t, t < 120 → codeAt L run t = 0) {i : Nat} (hi : i < L.length) : ∀ k, k ≤ 120 →
    gI (chkDone L run k) i = ((run.take k).count (i : Int) : Int) ∧ gI (chkDone L run k) i ≤ (L.getD i default).E ∧ ((k : Int) ≤ (L.getD i default).R → gI (chkDone L run k) i = 0)
  | 0, _ => by
    have : 1 ≤ (L.getD i default).E := hE _ (by
      rw [show L.getD i default = L[i] from by simp [List.getD_eq_getElem?_getD, hi]]
      exact List.getElem_mem hi)
    have h0 : gI (chkDone L run 0) i = 0 := gI_rep _ _ _ hi
    rw [h0]
    exact ⟨rfl, by omega, fun _ => rfl⟩
  | k + 1, hk => by
    obtain ⟨h1, h2, h3⟩ := chk_inv hl hE hall hi k (by omega)
    have hc := hall k (by omega)
    have hkr : k < run.length := by omega
    have hg : gI run k = run[k] := gI_row' hkr
    have hlen := chkDone_length L run k
    unfold codeAt chkCode at hc
    rw [List.take_succ_eq_append_getElem hkr, List.count_append, ← hg]
    simp only [chkDone]
    generalize gI run k = e at hc ⊢
    split at hc
    · cases hc
    · rename_i hok
      by_cases he : e = -1
      · subst he
        unfold tickDone
        rw [if_neg (by omega), show List.count (i : Int) [(-1 : Int)] = 0 from by rw [List.count_eq_zero]; simp <;> omega]
        exact ⟨by omega, h2, fun h => h3 (by omega)⟩
      · have hok2 : (0 ≤ e ∧ e ≤ (L.length : Int) - 1) ∧ readyJ L (chkDone L run k) k e.toNat = true := by
          apply Classical.byContradiction
          intro hno; exact hok ⟨he, hno⟩
        obtain ⟨n, rfl⟩ := Int.eq_ofNat_of_zero_le hok2.1.1
        have hr := hok2.2
        simp only [Int.toNat_natCast, readyJ, decide_eq_true_eq] at hr
        unfold tickDone
        rw [if_pos (by omega), Int.toNat_natCast, gI_set (by omega)]
        by_cases hni : n = i
        · subst hni
          rw [if_pos rfl, show List.count (n : Int) [(n : Int)] = 1 from by simp]
          exact ⟨by omega, by omega, fun h => by omega⟩
        · rw [if_neg hni, show List.count (i : Int) [(n : Int)] = 0 from by rw [List.count_eq_zero]; simp <;> omega]
          exact ⟨by omega, h2, fun h => h3 (by omega)⟩

theorem chk_sound {S : List Task} {L : List Job} {run : List Int} {a : Int} (hc : ChkR S L run 0 a) : run.length = 120 ∧ jobsLegal S L ∧ a = 0 ∧ ∀ i, i < L.length → ((L.getD i default).D ≤ 120 → ((run.take (L.getD i default).D.toNat).count (i : Int) : Int) = (L.getD i default).E) ∧ ((run.take (L.getD i default).R.toNat).count (i : Int) : Int) = 0 := by
  rcases hc with ⟨_, h2, _⟩ | ⟨_, _, h3, _⟩ | ⟨h, hl, ⟨_, h2, hall⟩ | ⟨t, h1, h2, h3, _⟩⟩
  · cases h2
  · cases h3
  · refine ⟨hl, h, h2, fun i hi => ?_⟩
    have hE := jl_E h
    have gm : L.getD i default ∈ L := by
      rw [show L.getD i default = L[i] from by simp [List.getD_eq_getElem?_getD, hi]]
      exact List.getElem_mem hi
    have hD := jl_D h _ gm
    have hR := (h.2.1.mem gm).2.1
    constructor
    · intro hd
      obtain ⟨h1, h2, _⟩ := chk_inv hl hE hall hi (L.getD i default).D.toNat (by omega)
      rw [← h1]
      have hk := hall ((L.getD i default).D.toNat - 1) (by omega)
      unfold codeAt chkCode at hk
      split at hk
      · cases hk
      · split at hk
        · cases hk
        · split at hk
          · cases hk
          · split at hk
            · cases hk
            · rename_i hn
              apply Classical.byContradiction
              intro hne
              refine hn (lateNow_iff.2 ⟨i, hi, by omega, ?_⟩)
              have e : chkDone L run (L.getD i default).D.toNat = tickDone (chkDone L run ((L.getD i default).D.toNat - 1)) (gI run ((L.getD i default).D.toNat - 1 : Nat)) := by
                conv => lhs; rw [show (L.getD i default).D.toNat = (L.getD i default).D.toNat - 1 + 1 by omega]
                rfl
              rw [← e]; omega
    · obtain ⟨h1, _, h3⟩ := chk_inv hl hE hall hi (L.getD i default).R.toNat (by omega)
      rw [← h1]; exact h3 (by omega)
  · exact absurd rfl h3
end Go.Ds

/- The plain law: the demand bound, and that a feasible set misses no deadline. Definitions in plain Lean; no program in sight. -/
namespace Go.Ds

/-- What one task may demand in an interval. -/
def dbf1 (x : Task) (t : Int) : Int := if x.D ≤ t then ((t - x.D) / x.P + 1) * x.C else 0
def dbf (S : List Task) (t : Int) : Int := S.foldl (fun acc x => acc + dbf1 x t) 0
def dbfN (S : List Task) (t : Int) (m : Nat) : Int := sumI (fun k => dbf1 (gT S k) t) m

theorem dbf_foldl (t : Int) : ∀ (S : List Task) (a : Int), S.foldl (fun acc x => acc + dbf1 x t) a = a + S.foldl (fun acc x => acc + dbf1 x t) 0
  | [], a => by simp
  | x :: S, a => by
    simp only [List.foldl_cons]
    rw [dbf_foldl t S (a + dbf1 x t), dbf_foldl t S (0 + dbf1 x t)]; omega
theorem dbf_snoc (S : List Task) (x : Task) (t : Int) : dbf (S ++ [x]) t = dbf S t + dbf1 x t := by
  unfold dbf; rw [List.foldl_append]; rfl
theorem dbf_take (S : List Task) (t : Int) : ∀ m, m ≤ S.length → dbf (S.take m) t = dbfN S t m
  | 0, _ => rfl
  | m + 1, h => by
    rw [List.take_succ_eq_append_getElem (show m < S.length by omega), dbf_snoc, dbf_take S t m (by omega)]
    unfold dbfN
    simp only [sumI]
    rw [gT_nat (show m < S.length by omega)]
theorem dbf_all (S : List Task) (t : Int) : dbf S t = dbfN S t S.length := by rw [← dbf_take S t _ (Nat.le_refl _), List.take_length]

theorem dbf1_bound {x : Task} (h : x.ok) {t : Int} (ht : 0 ≤ t) : 0 ≤ dbf1 x t ∧ dbf1 x t ≤ (t + 1) * 8 := by
  unfold Task.ok at h
  unfold dbf1
  split
  · have h1 : 0 ≤ (t - x.D) / x.P := Int.ediv_nonneg (by omega) (by omega)
    have h2 : (t - x.D) / x.P ≤ t - x.D := Int.ediv_le_self _ (by omega)
    constructor
    · exact Int.mul_nonneg (by omega) (by omega)
    · refine Int.le_trans (Int.mul_le_mul_of_nonneg_right (show (t - x.D) / x.P + 1 ≤ t + 1 by omega) (by omega)) ?_
      exact Int.mul_le_mul_of_nonneg_left (by omega) (by omega)
  · exact ⟨Int.le_refl _, Int.mul_nonneg (by omega) (by omega)⟩
theorem dbfN_bound {S : List Task} (h : setOk S) {t : Int} (ht : 0 ≤ t) : ∀ m, m ≤ S.length → 0 ≤ dbfN S t m ∧ dbfN S t m ≤ (t + 1) * 8 * m
  | 0, _ => by simp [dbfN, sumI]
  | m + 1, hm => by
    obtain ⟨h1, h2⟩ := dbfN_bound h ht m (by omega)
    obtain ⟨h3, h4⟩ := dbf1_bound (gT_ok h (show (0:Int) ≤ (m:Int) by omega) (by omega)) ht
    unfold dbfN at h1 h2 ⊢
    simp only [sumI]
    rw [show ((m + 1 : Nat) : Int) = (m : Int) + 1 by omega, Int.mul_add, Int.mul_one]
    omega

/-- A common multiple of the periods. -/
def isHyper (S : List Task) (H : Int) : Prop := 1 ≤ H ∧ ∀ x ∈ S, x.P ∣ H

theorem dbf1_shift {x : Task} (h : x.ok) {q t : Int} (hq : 1 ≤ q) (ht : 0 ≤ t) : dbf1 x (t + x.P * q) = dbf1 x t + q * x.C := by
  unfold Task.ok at h
  have hP : x.P * 1 ≤ x.P * q := Int.mul_le_mul_of_nonneg_left hq (by omega)
  unfold dbf1
  rw [if_pos (by omega), show t + x.P * q - x.D = t - x.D + x.P * q by omega, Int.add_mul_ediv_left _ _ (by omega)]
  split
  · rw [← Int.add_mul]; congr 1; omega
  · have : (t - x.D) / x.P = -1 := by
      have h1 : -1 ≤ (t - x.D) / x.P := by rw [Int.le_ediv_iff_mul_le (by omega)]; omega
      have h2 : (t - x.D) / x.P < 0 := by rw [Int.ediv_lt_iff_lt_mul (by omega)]; omega
      omega
    rw [this]
    rw [show -1 + q + 1 = q by omega]; omega
theorem dbf1_zero {x : Task} (h : x.ok) : dbf1 x 0 = 0 := by
  unfold Task.ok at h
  unfold dbf1
  rw [if_neg (by omega)]

theorem dbfN_shift {S : List Task} (hS : setOk S) {H : Int} (hH : isHyper S H) : ∀ m, m ≤ S.length → ∀ t, 0 ≤ t → dbfN S (t + H) m = dbfN S t m + dbfN S H m
  | 0, _, t, _ => rfl
  | m + 1, hm, t, ht => by
    have ih := dbfN_shift hS hH m (by omega) t ht
    have hx := gT_ok hS (show (0:Int) ≤ (m:Int) by omega) (show (m:Int) < S.length by omega)
    have hmem : gT S m ∈ S := by rw [gT_nat (show m < S.length by omega)]; exact List.getElem_mem _
    obtain ⟨q, hq⟩ := hH.2 _ hmem
    have hq1 : 1 ≤ q := by
      have h1 := hH.1
      have hx2 := hx
      unfold Task.ok at hx2
      apply Classical.byContradiction
      intro hn
      have : (gT S m).P * q ≤ (gT S m).P * 0 := Int.mul_le_mul_of_nonneg_left (by omega) (by omega)
      omega
    have e1 := dbf1_shift hx hq1 ht
    have e2 := dbf1_shift hx hq1 (Int.le_refl 0)
    rw [← hq] at e1 e2
    rw [Int.zero_add, dbf1_zero hx] at e2
    unfold dbfN at ih ⊢
    simp only [sumI]
    omega

/-- Where the demand fits up to the hyperperiod, it fits always. -/
theorem dbf_fits {S : List Task} (hS : setOk S) {H : Int} (hH : isHyper S H) (h : ∀ t, 1 ≤ t → t ≤ H → dbf S t ≤ t) : ∀ t : Nat, dbf S t ≤ t := by
  intro t
  induction t using Nat.strongRecOn with
  | _ t ih =>
  have h1 := hH.1
  by_cases h0 : t = 0
  · subst h0
    rw [dbf_all]
    unfold dbfN
    rw [sumI_zero]
    · exact Int.le_refl _
    · intro i hi
      exact dbf1_zero (gT_ok hS (by omega) (by omega))
  · by_cases h2 : (t : Int) ≤ H
    · exact h t (by omega) h2
    · have ih' := ih (t - H.toNat) (by omega)
      have e := dbfN_shift hS hH S.length (Nat.le_refl _) ((t : Int) - H) (by omega)
      have h3 := h H h1 (Int.le_refl _)
      rw [dbf_all] at ih' h3 ⊢
      rw [show (t : Int) - H + H = t by omega] at e
      rw [show ((t - H.toNat : Nat) : Int) = (t : Int) - H by omega] at ih'
      omega

/-- The work inside an interval is at most the demand. -/
theorem within_le {S : List Task} {L : List Job} (h : jobsLegal S L) {a d : Nat} (had : a ≤ d) : work (within L a d) (fun i => (L.getD i default).E) L.length ≤ dbf S ((d : Int) - a) := by
  have hj := (legal_zero S L).2 h
  have key : ∀ m, m ≤ S.length → work (fun i => within L a d i && decide ((L.getD i default).T < m)) (fun i => (L.getD i default).E) L.length ≤ dbfN S ((d : Int) - a) m := by
    intro m
    induction m with
    | zero =>
      intro _
      have : work (fun i => within L a d i && decide ((L.getD i default).T < (0 : Nat))) (fun i => (L.getD i default).E) L.length = 0 := by
        refine sumI_zero fun i hi => ?_
        have := (h.2.1.mem (getD_mem hi)).1
        rw [if_neg]
        rw [Bool.and_eq_true, decide_eq_true_iff]
        omega
      rw [this]; exact Int.le_refl _
    | succ m ih =>
      intro hm
      have ih := ih (by omega)
      have hx := gT_ok h.1 (show (0:Int) ≤ (m:Int) by omega) (show (m:Int) < S.length by omega)
      have hx2 := hx
      unfold Task.ok at hx2
      have hone : work (fun i => within L a d i && decide ((L.getD i default).T = m)) (fun i => (L.getD i default).E) L.length ≤ dbf1 (gT S m) ((d : Int) - a) := by
        by_cases hD : (gT S m).D ≤ (d : Int) - a
        · have hc := cntW_le hj (k := m) (t := a) (w := (d : Int) - a - (gT S m).D + 1) ⟨by omega, by omega⟩ (by omega)
          rw [gI_zeros] at hc
          unfold dbf1
          rw [if_pos hD]
          rw [show (d : Int) - a - (gT S m).D + 1 + 0 + (gT S m).P - 1 = (d : Int) - a - (gT S m).D + (gT S m).P * 1 by omega, Int.add_mul_ediv_left _ _ (by omega)] at hc
          refine Int.le_trans ?_ (Int.mul_le_mul_of_nonneg_right hc (by omega))
          unfold cntW
          rw [← sumI_mul]
          refine sumI_le fun i hi => ?_
          dsimp only
          have hi2 := h.2.1.mem (getD_mem hi)
          have hi3 := h.2.2.2 _ (getD_mem hi)
          have hco : costOf S (L.getD i default).T = (gT S (L.getD i default).T).C := rfl
          split
          · rename_i hw
            rw [Bool.and_eq_true, decide_eq_true_iff] at hw
            have hw1 := of_decide_eq_true hw.1
            rw [hw.2] at hi2 hi3 hco
            rw [if_pos]
            · omega
            · unfold inWin
              rw [decide_eq_true_iff]
              exact ⟨hw.2, hw1.1, by omega⟩
          · split <;> omega
        · have : work (fun i => within L a d i && decide ((L.getD i default).T = m)) (fun i => (L.getD i default).E) L.length = 0 := by
            refine sumI_zero fun i hi => ?_
            have hi3 := h.2.2.2 _ (getD_mem hi)
            rw [if_neg]
            rw [Bool.and_eq_true, decide_eq_true_iff]
            rintro ⟨h1, h2⟩
            have := of_decide_eq_true h1
            rw [h2] at hi3
            omega
          rw [this]
          unfold dbf1
          rw [if_neg hD]; exact Int.le_refl _
      have e : work (fun i => within L a d i && decide ((L.getD i default).T < (m + 1 : Nat))) (fun i => (L.getD i default).E) L.length = work (fun i => within L a d i && decide ((L.getD i default).T < m)) (fun i => (L.getD i default).E) L.length + work (fun i => within L a d i && decide ((L.getD i default).T = m)) (fun i => (L.getD i default).E) L.length := by
        refine sumI_add fun i hi => ?_
        dsimp only
        by_cases hw : within L a d i = true
        · by_cases h1 : (L.getD i default).T < m
          · rw [if_pos (by rw [hw, Bool.true_and, decide_eq_true_iff]; omega), if_pos (by rw [hw, Bool.true_and, decide_eq_true_iff]; exact h1), if_neg (by rw [hw, Bool.true_and, decide_eq_true_iff]; omega)]; omega
          · by_cases h2 : (L.getD i default).T = m
            · rw [if_pos (by rw [hw, Bool.true_and, decide_eq_true_iff]; omega), if_neg (by rw [hw, Bool.true_and, decide_eq_true_iff]; exact h1), if_pos (by rw [hw, Bool.true_and, decide_eq_true_iff]; exact h2)]; omega
            · rw [if_neg (by rw [hw, Bool.true_and, decide_eq_true_iff]; omega), if_neg (by rw [hw, Bool.true_and, decide_eq_true_iff]; exact h1), if_neg (by rw [hw, Bool.true_and, decide_eq_true_iff]; exact h2)]; omega
        · rw [if_neg (by rw [Bool.and_eq_true]; exact fun g => hw g.1), if_neg (by rw [Bool.and_eq_true]; exact fun g => hw g.1), if_neg (by rw [Bool.and_eq_true]; exact fun g => hw g.1)]; omega
      rw [e]
      unfold dbfN at ih ⊢
      simp only [sumI]
      omega
  have := key S.length (Nat.le_refl _)
  rw [← dbf_all] at this
  refine Int.le_trans (Int.le_of_eq (sumI_congr fun i hi => ?_)) this
  have hi2 := (h.2.1.mem (getD_mem hi)).1
  dsimp only
  by_cases hw : within L a d i = true
  · rw [if_pos hw, if_pos (by rw [hw, Bool.true_and, decide_eq_true_iff]; omega)]
  · rw [if_neg hw, if_neg (by rw [Bool.and_eq_true]; exact fun g => hw g.1)]

/-- A feasible set misses no deadline. -/
theorem edf_safe {S : List Task} {L : List Job} (h : jobsLegal S L) {H : Int} (hH : isHyper S H) (hf : ∀ t, 1 ≤ t → t ≤ H → dbf S t ≤ t) : missedL L (simU L (edfPick L) 120).fin = [] := by
  have hE : ∀ j ∈ L, 1 ≤ j.E := fun j hj => (h.2.1.mem hj).2.2.1
  have hR : ∀ j ∈ L, 0 ≤ j.R := fun j hj => (h.2.1.mem hj).2.1.1
  rw [missed_nil]
  intro i hi
  cases hl : lateAt L (simU L (edfPick L) 120).fin i with
  | false => rfl
  | true =>
    exfalso
    have hi2 := h.2.1.mem (getD_mem hi)
    have hi3 := h.2.2.2 _ (getD_mem hi)
    have hx := gT_ok h.1 hi2.1.1 hi2.1.2
    unfold Task.ok at hx
    obtain ⟨h1, h2⟩ := (late_iff (edf_fair L) hE hi (by omega)).1 hl
    have hon : EdfOn (fun _ => true) L (edfPick L) := fun now done => by rw [if_pos rfl]
    obtain ⟨a, ha, hw⟩ := edf_miss hon hE hR hi (d := (L.getD i default).D.toNat) (by omega) h2
    rw [free_all] at hw
    have h3 := within_le h ha
    have h4 := dbf_fits h.1 hH hf ((L.getD i default).D.toNat - a)
    rw [show (((L.getD i default).D.toNat - a : Nat) : Int) = ((L.getD i default).D.toNat : Int) - a by omega] at h4 hw
    omega
end Go.Ds
