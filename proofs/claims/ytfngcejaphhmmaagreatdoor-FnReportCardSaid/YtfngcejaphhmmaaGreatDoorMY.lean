import Derived.Test.YtfngcejaphhmmaaGreatDoorM19
import Derived.Test.YtfngcejaphhmmaaGreatDoorMM
namespace Go.Ds
def FFok (S : List Task) (m : Nat) (A : List Int) : Prop := A.length ≤ S.length ∧ ∀ i : Nat, i < A.length → (0 ≤ gI A i ∧ gI A i < m) ∧ feas (onC S A (gI A i) i ++ [gT S i]) ∧ ∀ c : Int, 0 ≤ c → c < gI A i → ¬ feas (onC S A c i ++ [gT S i])
theorem FFok.eq {S : List Task} {m m' : Nat} {A A' : List Int} (h : FFok S m A) (h' : FFok S m' A') : ∀ i : Nat, i < A.length → i < A'.length → gI A i = gI A' i := by
  intro i
  induction i using Nat.strongRecOn with
  | ind i ih =>
    intro h1 h2
    obtain ⟨a1, a2, a3⟩ := h.2 i h1
    obtain ⟨b1, b2, b3⟩ := h'.2 i h2
    have e : ∀ c : Int, onC S A c i = onC S A' c i := fun c => onC_congr i (by have := h.1; omega) (by omega) (by omega) fun j hj => by rw [ih j hj (by omega) (by omega)]
    rcases Int.lt_trichotomy (gI A i) (gI A' i) with h3 | h3 | h3
    · exact absurd (e _ ▸ a2) (b3 _ a1.1 h3)
    · exact h3
    · exact absurd ((e _).symm ▸ b2) (a3 _ b1.1 h3)
theorem FFok.snoc {S : List Task} {m : Nat} {A : List Int} {r : Int} (h : FFok S m A) (hl : A.length < S.length) (hr : 0 ≤ r ∧ r < m) (hf : feas (onC S A r A.length ++ [gT S A.length])) (hn : ∀ c : Int, 0 ≤ c → c < r → ¬ feas (onC S A c A.length ++ [gT S A.length])) : FFok S m (A ++ [r]) := by
  refine ⟨by rw [List.length_append, List.length_singleton]; omega, fun i hi => ?_⟩
  rw [List.length_append, List.length_singleton] at hi
  have e : ∀ (c : Int) (k : Nat), k ≤ A.length → onC S (A ++ [r]) c k = onC S A c k := fun c k hk => onC_congr k (by omega) (by simp; omega) hk fun j hj => by rw [gI_left (by omega)]
  rcases Nat.lt_or_eq_of_le (Nat.le_of_lt_succ hi) with h1 | rfl
  · rw [gI_left h1, e _ i (by omega)]
    obtain ⟨a1, a2, a3⟩ := h.2 i h1
    exact ⟨a1, a2, fun c h2 h3 => by rw [e _ i (by omega)]; exact a3 c h2 h3⟩
  · rw [gI_end, e _ _ (Nat.le_refl _)]
    exact ⟨hr, hf, fun c h2 h3 => by rw [e _ _ (Nat.le_refl _)]; exact hn c h2 h3⟩
def FFP (S : List Task) (m : Nat) (ok : Bool) (A : List Int) : Prop := (ok = true ∧ FFok S m A ∧ A.length = S.length) ∨
  (ok = false ∧ A = [] ∧ ∃ A', FFok S m A' ∧ A'.length < S.length ∧ ∀ c : Int, 0 ≤ c → c < m → ¬ feas (onC S A' c A'.length ++ [gT S A'.length]))
theorem ext_gI {A B : List Int} (h : A.length = B.length) (he : ∀ i : Nat, i < A.length → gI A i = gI B i) : A = B := by
  refine List.ext_getElem h fun i h1 h2 => ?_
  have := he i h1
  simpa [gI, List.getD_eq_getElem?_getD, h1, h2] using this
theorem FFok.stuck {S : List Task} {m m' : Nat} {A A' : List Int} (hm : m ≤ m') (h : FFok S m A) (hl : A.length = S.length) (h' : FFok S m' A') (hl' : A'.length < S.length) (hs : ∀ c : Int, 0 ≤ c → c < m' → ¬ feas (onC S A' c A'.length ++ [gT S A'.length])) : False := by
  obtain ⟨a1, a2, a3⟩ := h.2 A'.length (by omega)
  refine hs _ a1.1 (by omega) ?_
  rw [← onC_congr (A := A) A'.length (by omega) (by omega) (by omega) fun j hj => by rw [h.eq h' j (by omega) hj]]
  exact a2
theorem FFP.same {S : List Task} {m : Nat} {ok ok' : Bool} {A A' : List Int} (h : FFP S m ok A) (h' : FFP S m ok' A') : ok = ok' ∧ A = A' := by
  rcases h with ⟨rfl, h1, h2⟩ | ⟨rfl, rfl, B, h1, h2, h3⟩ <;> rcases h' with ⟨rfl, g1, g2⟩ | ⟨rfl, rfl, B', g1, g2, g3⟩
  · exact ⟨rfl, ext_gI (by omega) fun i hi => h1.eq g1 i hi (by omega)⟩
  · exact (h1.stuck (Nat.le_refl _) h2 g1 g2 g3).elim
  · exact (g1.stuck (Nat.le_refl _) g2 h1 h2 h3).elim
  · exact ⟨rfl, rfl⟩
theorem FFok.more {S : List Task} {m m' : Nat} (hm : m ≤ m') {A : List Int} (h : FFok S m A) : FFok S m' A := ⟨h.1, fun i hi => ⟨by have := (h.2 i hi).1; omega, (h.2 i hi).2⟩⟩
theorem FFP.more {S : List Task} {m m' : Nat} (hm : m ≤ m') {ok : Bool} {A A' : List Int} (h : FFP S m true A) (h' : FFP S m' ok A') : ok = true ∧ A' = A := by
  rcases h with ⟨_, h1, h2⟩ | ⟨h, _⟩
  · have := FFP.same (.inl ⟨rfl, h1.more hm, h2⟩) h'
    exact ⟨this.1.symm, this.2.symm⟩
  · cases h
theorem topN_lt {A : List Int} {x : Int} (h : x ∈ A) : x < topN A := by
  have key : ∀ (A : List Int) (a : Nat), a ≤ A.foldl (fun t a => max t (a.toNat + 1)) a ∧ ∀ x ∈ A, x < (A.foldl (fun t a => max t (a.toNat + 1)) a : Nat) := by
    intro A
    induction A with
    | nil => intro a; exact ⟨Nat.le_refl _, by simp⟩
    | cons y A ih =>
      intro a
      rw [List.foldl_cons]
      obtain ⟨h1, h2⟩ := ih (max a (y.toNat + 1))
      refine ⟨by omega, fun x hx => ?_⟩
      rcases List.mem_cons.1 hx with rfl | hx
      · omega
      · exact h2 x hx
  exact (key A 0).2 x h
theorem FFok.place {S : List Task} (hS : setOk S) {m : Nat} {A : List Int} (h : FFok S m A) {i : Nat} (hi : i < A.length) : PlaceOk S m A i := by
  obtain ⟨h1, h2, h3⟩ := h.2 i hi
  have hl := h.1
  refine ⟨h1.1, h1.2, ?_, ?_⟩
  · rcases Int.lt_or_le (topN (A.take i) : Int) (gI A i) with h4 | h4
    · refine absurd ?_ (h3 _ (by omega) h4)
      rw [onC_no i (by omega) (by omega) fun j hj he => ?_, List.nil_append]
      · refine feas_one (hS.2 _ ?_)
        have e2 : gT S i = S[i] := by simp [gT, List.getD_eq_getElem?_getD, show i < S.length by omega]
        rw [e2]; exact List.getElem_mem _
      · have : gI A j ∈ A.take i := by
          have e1 : gI A j = gI (A.take i) j := by simp [gI, List.getD_eq_getElem?_getD, List.getElem?_take, hj]
          rw [e1]; exact gI_mem (by rw [List.length_take]; omega)
        have := topN_lt this
        omega
    · exact h4
  · rw [onC_snoc _ (by omega) hi, if_pos rfl]; exact h2
theorem FFok.feas {S : List Task} (hS : setOk S) {m : Nat} {A : List Int} (h : FFok S m A) (hl : A.length = S.length) : feasA S m A := by
  refine ⟨hl, fun x hx => ?_, fun c _ _ => place_feas (m := m) hl (fun i hi => (h.place hS hi).2.2.2) c _ (Nat.le_refl _)⟩
  obtain ⟨i, hi, rfl⟩ := mem_gI hx
  exact (h.2 i hi).1
theorem zeros {m : Nat} (hm : m ≤ 1) {A : List Int} (h : ∀ i : Nat, i < A.length → 0 ≤ gI A i ∧ gI A i < m) : ∀ i : Nat, i < A.length → gI A i = 0 := fun i hi => by have := h i hi; omega
theorem feas_prefix {S : List Task} (h : feas S) {i : Nat} (hi : i < S.length) : feas (S.take i ++ [gT S i]) := by
  have e2 : gT S i = S[i] := by simp [gT, List.getD_eq_getElem?_getD, hi]
  rw [e2, ← List.take_succ_eq_append_getElem hi]
  exact feas_sub (List.take_sublist _ _) h
theorem FFP.one {S : List Task} (hS : setOk S) {ok : Bool} {A : List Int} (h : FFP S 1 ok A) : ok = true ↔ feas S := by
  rcases h with ⟨rfl, h1, h2⟩ | ⟨rfl, rfl, B, h1, h2, h3⟩
  · refine ⟨fun _ => ?_, fun _ => rfl⟩
    have := (h1.feas hS h2).2.2 0 (by omega) (by omega)
    rwa [onC_all _ (Nat.le_refl _) (by omega) fun i hi => zeros (Nat.le_refl _) (fun i hi => (h1.2 i hi).1) i (by omega), List.take_length] at this
  · refine ⟨fun h => absurd h (by decide), fun hf => ?_⟩
    refine absurd ?_ (h3 0 (by omega) (by omega))
    rw [onC_all _ (by omega) (Nat.le_refl _) fun i hi => zeros (Nat.le_refl _) (fun i hi => (h1.2 i hi).1) i hi]
    exact feas_prefix hf h2
def loadN (S : List Task) (H : Int) (k : Nat) : Int := sumI (fun i => H / (gT S i).P * (gT S i).C) k
theorem zip_fst_take : ∀ (S : List Task) (A : List Int) (k : Nat), (((S.zip A).take k).map (·.1)).Sublist (S.take k)
  | [], _, _ => by simp
  | x :: S, [], _ => by simp
  | x :: S, a :: A, 0 => by simp
  | x :: S, a :: A, k + 1 => by
    rw [List.zip_cons_cons, List.take_succ_cons, List.map_cons, List.take_succ_cons]
    exact (zip_fst_take S A k).cons_cons x
theorem onC_take (S : List Task) (A : List Int) (c : Int) (k : Nat) : (onC S A c k).Sublist (S.take k) := by
  unfold onC
  exact List.Sublist.trans (List.filter_sublist.map _) (zip_fst_take S A k)
theorem onC_next {S : List Task} (A : List Int) (c : Int) {k : Nat} (h : k < S.length) : (onC S A c k ++ [S[k]]).Sublist S := by
  refine List.Sublist.trans ((onC_take S A c k).append (List.Sublist.refl [S[k]])) ?_
  rw [← List.take_succ_eq_append_getElem h]
  exact List.take_sublist _ _
def pad (S : List Task) (A : List Int) : List Int := A ++ List.replicate (S.length - A.length) (-1)
theorem pad_length {S : List Task} {A : List Int} (h : A.length ≤ S.length) : (pad S A).length = S.length := by simp [pad]; omega
theorem pad_set {S : List Task} {A : List Int} (h : A.length < S.length) (r : Int) : (pad S A).set A.length r = pad S (A ++ [r]) := by
  unfold pad
  rw [List.set_append_right _ _ (Nat.le_refl _), Nat.sub_self, show S.length - A.length = (S.length - (A ++ [r]).length) + 1 by simp; omega, List.replicate_succ, List.set_cons_zero, List.append_assoc]
  rfl
theorem pad_back {S : List Task} {A : List Int} (h : A.length < S.length) (r : Int) : (pad S (A ++ [r])).set A.length (-1) = pad S A := by
  rw [← pad_set h, List.set_set, pad_set h]
  unfold pad
  rw [List.append_assoc, show S.length - A.length = (S.length - (A ++ [-1]).length) + 1 by simp; omega, List.replicate_succ]
  rfl
theorem pad_all {S : List Task} {A : List Int} (h : A.length = S.length) : pad S A = A := by simp [pad, h]
theorem onC_pad {S : List Task} {A : List Int} (h : A.length ≤ S.length) {c : Int} (hc : 0 ≤ c) : onC S (pad S A) c (pad S A).length = onC S A c A.length := by
  have hl := pad_length h
  have key : ∀ n, A.length + n ≤ S.length → onC S (pad S A) c (A.length + n) = onC S (pad S A) c A.length := by
    intro n
    induction n with
    | zero => intro _; rfl
    | succ n ih =>
      intro hn
      have e : gI (pad S A) ((A.length + n : Nat) : Int) = -1 := by
        simp only [gI, Int.toNat_natCast, List.getD_eq_getElem?_getD, pad]
        rw [List.getElem?_append_right (by omega), List.getElem?_replicate, if_pos (by omega)]
        rfl
      rw [← Nat.add_assoc, onC_snoc _ (by omega) (by omega), ih (by omega), e, if_neg (by omega), List.append_nil]
  rw [hl, show S.length = A.length + (S.length - A.length) by omega, key _ (by omega)]
  exact onC_congr _ h (by omega) (Nat.le_refl _) fun i hi => by rw [show gI (pad S A) i = gI A i from gI_left hi]
theorem range_none {β : Type} {f : Nat → Option β} : ∀ {k : Nat}, (∀ j, j < k → f j = none) → (List.range k).findSome? f = none := by
  intro k h
  rw [List.findSome?_eq_none_iff]
  intro x hx
  exact h x (List.mem_range.1 hx)
theorem range_first {β : Type} {f : Nat → Option β} {k n : Nat} {b : β} (h : ∀ j, j < k → f j = none) (hk : f k = some b) (hn : k < n) : (List.range n).findSome? f = some b := by
  obtain ⟨d, h1, b', h2, h3, h4⟩ := first_hit hn hk
  rcases Nat.lt_or_eq_of_le h1 with h5 | h5
  · rw [h d h5] at h2; cases h2
  · rw [h3, h4 h5]
theorem pad_reset {S : List Task} {A B : List Int} (h : A.length < S.length) (hB : B = A ∨ ∃ x, B = A ++ [x]) (r : Int) : (pad S B).set A.length r = pad S (A ++ [r]) := by
  rcases hB with rfl | ⟨x, rfl⟩
  · exact pad_set h r
  · rw [← pad_set h, List.set_set, pad_set h]
theorem pad_clear {S : List Task} {A B : List Int} (h : A.length < S.length) (hB : B = A ∨ ∃ x, B = A ++ [x]) : (pad S B).set A.length (-1) = pad S A := by
  rw [pad_reset h hB, ← pad_back h (-1), pad_reset h (.inr ⟨_, rfl⟩)]
end Go.Ds
/- The plain law: shared resources. Definitions in plain Lean; no program in sight. -/
namespace Go.Ds
/-- A critical section. -/
structure Sec where
  St : Int
  Ln : Int
  Rs : Int
  deriving DecidableEq, Inhabited
def gX (X : List Sec) (k : Int) : Sec := X.getD k.toNat default
def secOk (t : Task) (s : Sec) : Prop := (s.Ln = 0 → s.St = 0 ∧ s.Rs = 0) ∧ (0 ≤ s.Ln ∧ s.Ln ≤ t.C) ∧ (0 ≤ s.St ∧ s.St ≤ t.C - s.Ln) ∧ 0 ≤ s.Rs ∧ s.Rs ≤ 2
instance (t : Task) (s : Sec) : Decidable (secOk t s) := by unfold secOk; infer_instance
def secsOk (S : List Task) (X : List Sec) : Prop := setOk S ∧ X.length = S.length ∧ ∀ k : Nat, k < X.length → secOk (gT S k) (gX X k)
noncomputable instance (S : List Task) (X : List Sec) : Decidable (secsOk S X) := Classical.propDecidable _
def inSec (s : Sec) (d : Int) : Prop := s.St < d ∧ d < s.St + s.Ln
instance (s : Sec) (d : Int) : Decidable (inSec s d) := by unfold inSec; infer_instance
def keyD (L : List Job) (i : Nat) : Int := (L.getD i default).D
end Go.Ds
/- The plain law: shared resources: busy times, started jobs, mutual exclusion. Definitions in plain Lean; no program in sight. -/
namespace Go.Ds
section
variable {L : List Job} {pick : Nat → List Int → Int}
end
def running (L : List Job) (done : List Int) (i : Nat) : Prop := 0 < gI done i ∧ gI done i < (L.getD i default).E
end Go.Ds
