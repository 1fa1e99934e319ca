import Derived.Test.YtmphblbpofnpaaaAbsY
namespace Go.Proofs.Ytmphblbpofnpaaa
open Go.Abs
set_option linter.unusedSimpArgs false
set_option linter.unusedVariables false
set_option maxRecDepth 20000
def up {α : Type} (f : Nat → α) (i : Nat) (a : α) : Nat → α := fun j => if j = i then a else f j
theorem up_eq {α : Type} (f : Nat → α) (i : Nat) (a : α) : up f i a i = a := if_pos rfl
theorem up_ne {α : Type} (f : Nat → α) {i j : Nat} (a : α) (h : j ≠ i) : up f i a j = f j := if_neg h
def Lay (N : Nat) (H : List AB) (p : Nat → Nat) (B : Nat → Option AB) : Prop :=
  (∀ i b, B i = some b → N ≤ p i ∧ H[p i]? = some b) ∧ ∀ i j bi bj, B i = some bi → B j = some bj → p i = p j → i = j
section
variable {N : Nat} {H : List AB} {p : Nat → Nat} {B B' : Nat → Option AB} {i : Nat} {b : AB}
theorem Lay.at (h : Lay N H p B) (hi : B i = some b) : H[p i]? = some b := (h.1 i b hi).2
theorem Lay.ge (h : Lay N H p B) (hi : B i = some b) : N ≤ p i := (h.1 i b hi).1
theorem Lay.lt (h : Lay N H p B) (hi : B i = some b) : p i < H.length := (List.getElem?_eq_some_iff.1 (h.at hi)).1
theorem Lay.mono (h : Lay N H p B) (hm : ∀ i b, B' i = some b → B i = some b) : Lay N H p B' :=
  ⟨fun i b hi => h.1 i b (hm i b hi), fun i j bi bj hi hj => h.2 i j bi bj (hm i bi hi) (hm j bj hj)⟩
theorem Lay.low (h : Lay N H p B) {n : Nat} (hn : n < N) (b : AB) : Lay N (H.set n b) p B := by
  refine ⟨fun i bi hi => ?_, h.2⟩
  have := h.1 i bi hi
  exact ⟨this.1, by rw [List.getElem?_set_ne (by omega)]; exact this.2⟩
theorem Lay.junk (h : Lay N H p B) (τ : List AB) : Lay N (H ++ τ) p B :=
  ⟨fun i bi hi => ⟨(h.1 i bi hi).1, by rw [List.getElem?_append_left (h.lt hi)]; exact h.at hi⟩, h.2⟩
theorem Lay.set (h : Lay N H p B) (hi : B i = some b) (b' : AB) : Lay N (H.set (p i) b') p (up B i (some b')) := by
  have hlt := h.lt hi
  have key : ∀ j bj, up B i (some b') j = some bj → ∃ bj', B j = some bj' := fun j bj hj => by
    by_cases e : j = i
    · subst e; exact ⟨b, hi⟩
    · rw [up_ne _ _ e] at hj; exact ⟨bj, hj⟩
  refine ⟨fun j bj hj => ?_, fun j k bj bk hj hk => ?_⟩
  · by_cases e : j = i
    · subst e
      rw [up_eq] at hj
      cases hj
      exact ⟨h.ge hi, List.getElem?_set_self hlt⟩
    · rw [up_ne _ _ e] at hj
      refine ⟨h.ge hj, ?_⟩
      rw [List.getElem?_set_ne (fun g => e (h.2 _ _ _ _ hj hi g.symm))]
      exact h.at hj
  · obtain ⟨bj', hj'⟩ := key j bj hj
    obtain ⟨bk', hk'⟩ := key k bk hk
    exact h.2 j k _ _ hj' hk'
theorem Lay.dead (h : Lay N H p B) (hi : B i = some b) (b' : AB) : Lay N (H.set (p i) b') p (up B i none) := by
  refine (h.set hi b').mono fun j bj hj => ?_
  by_cases e : j = i
  · subst e; rw [up_eq] at hj; cases hj
  · rw [up_ne _ _ e] at hj ⊢; exact hj
theorem Lay.put (h : Lay N H p B) (hN : N ≤ H.length) (i : Nat) (b : AB) (hi : B i = none) {n : Nat} (hn : n = H.length) : Lay N (H ++ [b]) (up p i n) (up B i (some b)) := by
  subst hn
  refine ⟨fun j bj hj => ?_, fun j k bj bk hj hk hp => ?_⟩
  · by_cases e : j = i
    · subst e
      rw [up_eq] at hj
      cases hj
      rw [up_eq]
      exact ⟨hN, by simp⟩
    · rw [up_ne _ _ e] at hj ⊢
      exact ⟨h.ge hj, by rw [List.getElem?_append_left (h.lt hj)]; exact h.at hj⟩
  · by_cases e : j = i
    · subst e
      by_cases e2 : k = j
      · exact e2.symm
      · rw [up_ne _ _ e2] at hk hp
        rw [up_eq] at hp
        have := h.lt hk; omega
    · rw [up_ne _ _ e] at hj hp
      by_cases e2 : k = i
      · subst e2
        rw [up_eq] at hp
        have := h.lt hj; omega
      · rw [up_ne _ _ e2] at hk hp
        exact h.2 _ _ _ _ hj hk hp
end
section
variable {N : Nat} {H : List AB} {p : Nat → Nat} {B B' : Nat → Option AB} {i : Nat} {b : AB}
theorem Lay.upd (h : Lay N H p B) (hi : B i = some b) (b' : AB) (hB : ∀ j x, B' j = some x → up B i (some b') j = some x) : Lay N (H.set (p i) b') p B' := (h.set hi b').mono hB
theorem Lay.grow (h : Lay N H p B) (hN : N ≤ H.length) (hi : B i = some b) (τ : List AB) (new : AB) {n : Nat} (hn : n = H.length + τ.length) (hB : ∀ j x, B' j = some x → up B i (some new) j = some x) : Lay N ((H ++ τ).set (p i) .dead ++ [new]) (up p i n) B' := by
  have h1 := ((h.junk τ).dead hi .dead).put (by simp only [List.length_append, List.length_set]; omega) i new (up_eq _ _ _) (n := n) (by simp [hn])
  refine h1.mono fun j x hj => ?_
  have := hB j x hj
  by_cases e : j = i
  · subst e; rw [up_eq] at this ⊢; exact this
  · rw [up_ne _ _ e] at this ⊢; rw [up_ne _ _ e]; exact this
theorem Lay.born (h : Lay N H p B) (hN : N ≤ H.length) (hi : B i = none) (τ : List AB) (new : AB) {n : Nat} (hn : n = H.length + τ.length) (hB : ∀ j x, B' j = some x → up B i (some new) j = some x) : Lay N ((H ++ τ) ++ [new]) (up p i n) B' :=
  ((h.junk τ).put (by simp only [List.length_append]; omega) i new hi (by simpa using hn)).mono hB
end
def Base (σ H : List AB) (k : Nat) : Prop := (∀ m, m < σ.length → H[m]? = σ[m]?) ∧ σ.length + k ≤ H.length
section
variable {σ H : List AB} {k : Nat}
theorem Base.app (h : Base σ H k) (τ : List AB) : Base σ (H ++ τ) k := ⟨fun m hm => by rw [List.getElem?_append_left (by have := h.2; omega)]; exact h.1 m hm, by rw [List.length_append]; have := h.2; omega⟩
theorem Base.set (h : Base σ H k) {n : Nat} (hn : σ.length ≤ n) (b : AB) : Base σ (H.set n b) k := ⟨fun m hm => by rw [List.getElem?_set_ne (by omega)]; exact h.1 m hm, by rw [List.length_set]; exact h.2⟩
theorem Base.cells (h : Base σ H k) {n : Nat} {cs : List AV} (hc : cellsOf σ n = some cs) : cellsOf H n = some cs := by
  have hn := cells_lt hc
  unfold cellsOf at hc ⊢
  rw [h.1 n hn]; exact hc
theorem Base.rd (h : Base σ H k) {α : Type} {E : Enc α} {v : AV} {L : List α} (hr : Rd E σ v L) : Rd E H v L := by
  have hlen := h.2
  rcases hr with ⟨n, o, cap, cs, h1, h2, h3, h4⟩ | ⟨h1, h2, h3⟩
  · exact .inl ⟨n, o, cap, cs, h1, by omega, h.cells h3, h4⟩
  · exact .inr ⟨h1, h2, by omega⟩
end
theorem base_split' {σ H : List AB} {k : Nat} (hb : Base σ H k) : σ ++ H.drop σ.length = H := by
  apply List.ext_getElem?
  intro i
  by_cases h : i < σ.length
  · rw [List.getElem?_append_left h, hb.1 i h]
  · rw [List.getElem?_append_right (by omega), List.getElem?_drop]; congr 1; omega
end Go.Proofs.Ytmphblbpofnpaaa
