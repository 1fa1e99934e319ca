import Derived.Test.YtfngcejaphhmmaaGreatDoorM44
namespace Go.Ds
def ltK (d : Int → Int) (x y : Int) : Prop := d x < d y ∨ (d x = d y ∧ x < y)
theorem ltK_trans {d : Int → Int} {x y z : Int} (h : ltK d x y) (g : ltK d y z) : ltK d x z := by unfold ltK at *; omega
theorem ltK_irr {d : Int → Int} {x : Int} (h : ltK d x x) : False := by unfold ltK at h; omega
abbrev Srt (d : Int → Int) (l : List Int) : Prop := l.Pairwise (ltK d)
abbrev Asc (l : List Int) : Prop := l.Pairwise fun x y => x < y
abbrev Sep (A B : List Int) : Prop := ∀ x ∈ A, ∀ y ∈ B, x < y
theorem set_mid (A B : List Int) (u v : Int) : (A ++ u :: B).set A.length v = A ++ v :: B := by simp
theorem set_at {A B : List Int} {u v : Int} {k : Nat} (h : k = A.length) : (A ++ u :: B).set k v = A ++ v :: B := by subst h; exact set_mid A B u v
theorem get_mid (A B : List Int) (u : Int) : (A ++ u :: B)[A.length]? = some u := by simp
theorem get_at {A B : List Int} {u : Int} {k : Nat} (h : k = A.length) : (A ++ u :: B)[k]? = some u := by subst h; exact get_mid A B u
theorem drop_cons {l : List Int} {t : Nat} (h : t < l.length) : l.drop t = l[t] :: l.drop (t + 1) := List.drop_eq_getElem_cons h
theorem take_snoc {l : List Int} {t : Nat} (h : t < l.length) : l.take (t + 1) = l.take t ++ [l[t]] := by rw [List.take_succ_eq_append_getElem h]
def swp (X U M V Y : List Int) (t : Nat) : List Int := X ++ (V.take t ++ (U.drop t ++ (M ++ (U.take t ++ (V.drop t ++ Y)))))
theorem swp_len (X U M V Y : List Int) (t : Nat) : (swp X U M V Y t).length = X.length + U.length + M.length + V.length + Y.length := by
  simp only [swp, List.length_append, List.length_take, List.length_drop]; omega
theorem swp_zero (X U M V Y : List Int) : swp X U M V Y 0 = X ++ (U ++ (M ++ (V ++ Y))) := by simp [swp]
theorem swp_all {X U M V Y : List Int} {k : Nat} (hU : U.length = k) (hV : V.length = k) : swp X U M V Y k = X ++ (V ++ (M ++ (U ++ Y))) := by
  unfold swp
  rw [List.take_of_length_le (by omega), List.take_of_length_le (by omega), List.drop_of_length_le (by omega), List.drop_of_length_le (by omega)]; simp
section
variable {X U M V Y : List Int} {t k : Nat}
theorem swp_form (h : t < U.length) (g : t < V.length) : swp X U M V Y t = (X ++ V.take t) ++ U[t] :: (U.drop (t + 1) ++ (M ++ (U.take t ++ (V[t] :: (V.drop (t + 1) ++ Y))))) := by
  unfold swp
  rw [drop_cons h, drop_cons g]; simp only [List.append_assoc, List.cons_append]
theorem swp_form2 (h : t < U.length) (g : t < V.length) (u : Int) : (X ++ V.take t) ++ u :: (U.drop (t + 1) ++ (M ++ (U.take t ++ (V[t] :: (V.drop (t + 1) ++ Y))))) = (X ++ (V.take t ++ (u :: (U.drop (t + 1) ++ (M ++ U.take t))))) ++ V[t] :: (V.drop (t + 1) ++ Y) := by simp
theorem swp_u (hU : U.length = k) (hV : V.length = k) (h : t < k) : (swp X U M V Y t)[X.length + t]? = some (U[t]'(by omega)) := by
  rw [swp_form (by omega) (by omega)]
  exact get_at (by simp; omega)
theorem swp_v (hU : U.length = k) (hV : V.length = k) (h : t < k) : (swp X U M V Y t)[X.length + U.length + M.length + t]? = some (V[t]'(by omega)) := by
  rw [swp_form (by omega) (by omega), swp_form2 (by omega) (by omega)]
  exact get_at (by simp; omega)
theorem swp_succ (hU : U.length = k) (hV : V.length = k) (h : t < k) : ((swp X U M V Y t).set (X.length + t) (V[t]'(by omega))).set (X.length + U.length + M.length + t) (U[t]'(by omega)) = swp X U M V Y (t + 1) := by
  rw [swp_form (by omega) (by omega), set_at (by simp; omega), swp_form2 (by omega) (by omega), set_at (by simp; omega)]
  unfold swp
  rw [take_snoc (show t < U.length by omega), take_snoc (show t < V.length by omega)]
  simp only [List.append_assoc, List.cons_append, List.nil_append]
end
def mvR (X R Y : List Int) (x : Int) (t : Nat) : List Int := X ++ (R.take t ++ (x :: (R.drop t ++ Y)))
theorem mvR_len (X R Y : List Int) (x : Int) (t : Nat) : (mvR X R Y x t).length = X.length + R.length + Y.length + 1 := by
  simp only [mvR, List.length_append, List.length_take, List.length_drop, List.length_cons]; omega
section
variable {X R Y : List Int} {x : Int} {t : Nat}
theorem mvR_form (h : t < R.length) : mvR X R Y x t = (X ++ R.take t) ++ x :: (R[t] :: (R.drop (t + 1) ++ Y)) := by unfold mvR; rw [drop_cons h]; simp only [List.append_assoc, List.cons_append]
theorem mvR_x : (mvR X R Y x t)[X.length + min t R.length]? = some x := by
  unfold mvR
  rw [← List.append_assoc]
  exact get_at (by simp)
theorem mvR_x' (h : t ≤ R.length) : (mvR X R Y x t)[X.length + t]? = some x := by have := mvR_x (X := X) (R := R) (Y := Y) (x := x) (t := t); rwa [Nat.min_eq_left h] at this
theorem mvR_r (h : t < R.length) : (mvR X R Y x t)[X.length + t + 1]? = some R[t] := by
  rw [mvR_form h, show (X ++ R.take t) ++ x :: (R[t] :: (R.drop (t + 1) ++ Y)) = (X ++ (R.take t ++ [x])) ++ R[t] :: (R.drop (t + 1) ++ Y) by simp only [List.append_assoc, List.cons_append, List.nil_append]]
  exact get_at (by simp; omega)
theorem mvR_succ (h : t < R.length) : ((mvR X R Y x t).set (X.length + t) R[t]).set (X.length + t + 1) x = mvR X R Y x (t + 1) := by
  rw [mvR_form h, set_at (by simp; omega), show (X ++ R.take t) ++ R[t] :: (R[t] :: (R.drop (t + 1) ++ Y)) = (X ++ (R.take t ++ [R[t]])) ++ R[t] :: (R.drop (t + 1) ++ Y) by simp only [List.append_assoc, List.cons_append, List.nil_append], set_at (by simp; omega)]
  unfold mvR
  rw [take_snoc h]; simp
theorem mvR_l (h : t + 1 ≤ R.length) : (mvR X R Y x (t + 1))[X.length + t]? = some (R[t]'(by omega)) := by
  unfold mvR
  rw [take_snoc (by omega), show X ++ (R.take t ++ [R[t]] ++ (x :: (R.drop (t + 1) ++ Y))) = (X ++ R.take t) ++ R[t] :: (x :: (R.drop (t + 1) ++ Y)) by simp only [List.append_assoc, List.cons_append, List.nil_append]]
  exact get_at (by simp; omega)
theorem mvR_pred (h : t + 1 ≤ R.length) : ((mvR X R Y x (t + 1)).set (X.length + (t + 1)) (R[t]'(by omega))).set (X.length + t) x = mvR X R Y x t := by
  rw [mvR_form (show t < R.length by omega)]
  unfold mvR
  rw [take_snoc (by omega), show X ++ (R.take t ++ [R[t]] ++ (x :: (R.drop (t + 1) ++ Y))) = (X ++ (R.take t ++ [R[t]])) ++ x :: (R.drop (t + 1) ++ Y) by simp only [List.append_assoc, List.cons_append, List.nil_append], set_at (by simp; omega),
    show (X ++ (R.take t ++ [R[t]])) ++ R[t] :: (R.drop (t + 1) ++ Y) = (X ++ R.take t) ++ R[t] :: (R[t] :: (R.drop (t + 1) ++ Y)) by simp only [List.append_assoc, List.cons_append, List.nil_append], set_at (by simp; omega)]
end
section
variable {d : Int → Int}
theorem srt_ins {R : List Int} {x : Int} {t : Nat} (hR : Srt d R) (h1 : ∀ y ∈ R.take t, ltK d y x) (h2 : ∀ y ∈ R.drop t, ltK d x y) : Srt d (R.take t ++ x :: R.drop t) := by
  have hs : Srt d (R.take t ++ R.drop t) := by rw [List.take_append_drop]; exact hR
  rw [Srt, List.pairwise_append] at hs ⊢
  refine ⟨hs.1, List.pairwise_cons.2 ⟨h2, hs.2.1⟩, fun a ha b hb => ?_⟩
  rcases List.mem_cons.1 hb with rfl | hb
  · exact h1 a ha
  · exact hs.2.2 a ha b hb
theorem perm_ins (R : List Int) (x : Int) (t : Nat) : (R.take t ++ x :: R.drop t).Perm (x :: R) := by
  have := List.perm_middle (a := x) (l₁ := R.take t) (l₂ := R.drop t)
  rwa [List.take_append_drop] at this
theorem srt_low {R : List Int} {x : Int} {t : Nat} (hR : Srt d R) (ht : t ≤ R.length) (h : t = 0 ∨ ∃ g : t - 1 < R.length, ltK d R[t - 1] x) : ∀ y ∈ R.take t, ltK d y x := by
  intro y hy
  obtain ⟨i, hi, rfl⟩ := List.getElem_of_mem hy
  rw [List.length_take] at hi
  rcases h with h | ⟨g, h⟩
  · omega
  rw [List.getElem_take]
  rcases Nat.lt_or_ge i (t - 1) with h1 | h1
  · exact ltK_trans (List.pairwise_iff_getElem.1 hR i (t - 1) (by omega) g h1) h
  · have e : i = t - 1 := by omega
    subst e; exact h
theorem srt_high {R : List Int} {x : Int} {t : Nat} (hR : Srt d R) (h : t = R.length ∨ ∃ g : t < R.length, ltK d x R[t]) : ∀ y ∈ R.drop t, ltK d x y := by
  intro y hy
  obtain ⟨i, hi, rfl⟩ := List.getElem_of_mem hy
  rw [List.length_drop] at hi
  rcases h with h | ⟨g, h⟩
  · omega
  rw [List.getElem_drop]
  rcases Nat.eq_zero_or_pos i with h1 | h1
  · subst h1; exact h
  · exact ltK_trans h (List.pairwise_iff_getElem.1 hR t (t + i) g (by omega) (by omega))
theorem srt_cross {A U V B Z1 Z2 : List Int} (hL : Srt d (A ++ U)) (hR : Srt d (V ++ B)) (h1 : ∀ x ∈ A, ∀ y ∈ B, ltK d x y) (h2 : ∀ x ∈ V, ∀ y ∈ U, ltK d x y)
    (p1 : Z1.Perm (A ++ V)) (p2 : Z2.Perm (U ++ B)) (s1 : Srt d Z1) (s2 : Srt d Z2) : Srt d (Z1 ++ Z2) ∧ (Z1 ++ Z2).Perm ((A ++ U) ++ (V ++ B)) := by
  rw [Srt, List.pairwise_append] at hL hR
  refine ⟨List.pairwise_append.2 ⟨s1, s2, fun a ha b hb => ?_⟩, ?_⟩
  · rcases List.mem_append.1 (p1.mem_iff.1 ha) with g | g <;> rcases List.mem_append.1 (p2.mem_iff.1 hb) with g' | g'
    · exact hL.2.2 a g b g'
    · exact h1 a g b g'
    · exact h2 a g b g'
    · exact hR.2.2 a g b g'
  · refine (p1.append p2).trans ?_
    rw [List.append_assoc, List.append_assoc]
    refine List.Perm.append_left A ?_
    rw [← List.append_assoc, ← List.append_assoc]
    exact List.Perm.append_right B List.perm_append_comm
theorem cross_low {L R : List Int} {i j : Nat} (hL : Srt d L) (hR : Srt d R) (hi : i ≤ L.length) (h : i = 0 ∨ j = R.length ∨ ∃ (g : i - 1 < L.length) (g' : j < R.length), ltK d L[i - 1] R[j]) : ∀ x ∈ L.take i, ∀ y ∈ R.drop j, ltK d x y := by
  intro x hx y hy
  rcases h with h | h | ⟨g, g', h⟩
  · subst h; simp at hx
  · subst h; simp at hy
  · have h1 := srt_high hR (.inr ⟨g', h⟩) y hy
    exact srt_low hL hi (.inr ⟨g, h1⟩) x hx
theorem cross_high {L R : List Int} {i j : Nat} (hL : Srt d L) (hR : Srt d R) (hj : j ≤ R.length) (h : i = L.length ∨ j = 0 ∨ ∃ (g : i < L.length) (g' : j - 1 < R.length), ltK d R[j - 1] L[i]) : ∀ x ∈ R.take j, ∀ y ∈ L.drop i, ltK d x y := by
  intro x hx y hy
  rcases h with h | h | ⟨g, g', h⟩
  · subst h; simp at hy
  · subst h; simp at hx
  · have h1 := srt_high hL (.inr ⟨g, h⟩) y hy
    exact srt_low hR hj (.inr ⟨g', h1⟩) x hx
end
end Go.Ds
