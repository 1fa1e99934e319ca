import Derived.Test.YtfngcejaphhmmaaM49
namespace Go.Ds
def wc (P : List Nd) (k : Nat) : Int := if (gN P k).K = 3 then (if cstA true P (gN P k).B.toNat ≤ cstA true P (gN P k).A.toNat then 0 else 1) else (gN P k).Bd
def wchF (P : List Nd) : Nat → Nat → List Int
  | 0, _ => []
  | f + 1, k => if (gN P k).K = 2 then wchF P f (gN P k).A.toNat ++ wchF P f (gN P k).B.toNat
    else if (gN P k).K = 3 then wc P k :: (if wc P k = 0 then wchF P f (gN P k).A.toNat else wchF P f (gN P k).B.toNat)
    else if (gN P k).K = 4 then wc P k :: (List.replicate (gN P k).Bd.toNat (wchF P f (gN P k).A.toNat)).flatten
    else []
def wch (P : List Nd) (k : Nat) : List Int := wchF P (k + 1) k
section
variable {P : List Nd}
theorem kid {k : Nat} (ho : ndOk (gN P k) k) : ((gN P k).K = 2 → (gN P k).A.toNat < k ∧ (gN P k).B.toNat < k) ∧ ((gN P k).K = 3 → (gN P k).A.toNat < k ∧ (gN P k).B.toNat < k) ∧ ((gN P k).K = 4 → (gN P k).A.toNat < k) := by
  unfold ndOk at ho
  refine ⟨fun h => ?_, fun h => ?_, fun h => ?_⟩ <;> omega
theorem wch_fuel (h : nodesOk P) : ∀ (f f' k : Nat), k < P.length → k < f → k < f' → wchF P f k = wchF P f' k
  | 0, _, k, _, hf, _ => by omega
  | _, 0, k, _, _, hf => by omega
  | f + 1, f' + 1, k, hk, hf, hf' => by
    have kd := kid (h k hk)
    simp only [wchF]
    by_cases h2 : (gN P k).K = 2
    · rw [if_pos h2, if_pos h2]
      obtain ⟨a, b⟩ := kd.1 h2
      rw [wch_fuel h f f' _ (by omega) (by omega) (by omega), wch_fuel h f f' (gN P k).B.toNat (by omega) (by omega) (by omega)]
    · rw [if_neg h2, if_neg h2]
      by_cases h3 : (gN P k).K = 3
      · rw [if_pos h3, if_pos h3]
        obtain ⟨a, b⟩ := kd.2.1 h3
        rw [wch_fuel h f f' _ (by omega) (by omega) (by omega), wch_fuel h f f' (gN P k).B.toNat (by omega) (by omega) (by omega)]
      · rw [if_neg h3, if_neg h3]
        by_cases h4 : (gN P k).K = 4
        · rw [if_pos h4, if_pos h4]
          have a := kd.2.2 h4
          rw [wch_fuel h f f' _ (by omega) (by omega) (by omega)]
        · rw [if_neg h4, if_neg h4]
theorem wch_two (h : nodesOk P) {k : Nat} (hk : k < P.length) (hK : (gN P k).K = 2) : wch P k = wch P (gN P k).A.toNat ++ wch P (gN P k).B.toNat := by
  obtain ⟨a, b⟩ := (kid (h k hk)).1 hK
  unfold wch
  rw [wch_fuel h ((gN P k).A.toNat + 1) k _ (by omega) (by omega) (by omega), wch_fuel h ((gN P k).B.toNat + 1) k (gN P k).B.toNat (by omega) (by omega) (by omega)]
  simp only [wchF, hK, if_true]
theorem wch_three (h : nodesOk P) {k : Nat} (hk : k < P.length) (hK : (gN P k).K = 3) : wch P k = wc P k :: (if wc P k = 0 then wch P (gN P k).A.toNat else wch P (gN P k).B.toNat) := by
  obtain ⟨a, b⟩ := (kid (h k hk)).2.1 hK
  have n2 : ¬ (gN P k).K = 2 := by omega
  unfold wch
  rw [wch_fuel h ((gN P k).A.toNat + 1) k _ (by omega) (by omega) (by omega), wch_fuel h ((gN P k).B.toNat + 1) k (gN P k).B.toNat (by omega) (by omega) (by omega)]
  rw [wchF, if_neg n2, if_pos hK]
theorem wch_four (h : nodesOk P) {k : Nat} (hk : k < P.length) (hK : (gN P k).K = 4) : wch P k = wc P k :: (List.replicate (gN P k).Bd.toNat (wch P (gN P k).A.toNat)).flatten := by
  have a := (kid (h k hk)).2.2 hK
  have n2 : ¬ (gN P k).K = 2 := by omega
  have n3 : ¬ (gN P k).K = 3 := by omega
  unfold wch
  rw [wch_fuel h ((gN P k).A.toNat + 1) k _ (by omega) (by omega) (by omega)]
  rw [wchF, if_neg n2, if_neg n3, if_pos hK]
theorem wch_one {k : Nat} (hK : (gN P k).K = 1) : wch P k = [] := by
  have n2 : ¬ (gN P k).K = 2 := by omega
  have n3 : ¬ (gN P k).K = 3 := by omega
  have n4 : ¬ (gN P k).K = 4 := by omega
  unfold wch
  rw [wchF, if_neg n2, if_neg n3, if_neg n4]
theorem rep_snoc (n : Nat) (l : List Int) : (List.replicate (n + 1) l).flatten = (List.replicate n l).flatten ++ l := by
  rw [List.replicate_succ']; simp
theorem wc_time (h : nodesOk P) {k : Nat} (hk : k < P.length) (hK : (gN P k).K = 3) : (wc P k = 0 ∧ cstA true P k = (gN P k).C + cstA true P (gN P k).A.toNat ∧ cstA true P (gN P k).B.toNat ≤ cstA true P (gN P k).A.toNat) ∨ (wc P k = 1 ∧ cstA true P k = (gN P k).C + cstA true P (gN P k).B.toNat ∧ cstA true P (gN P k).A.toNat < cstA true P (gN P k).B.toNat) := by
  obtain ⟨e, _⟩ := cost_three (h k hk) hK
  unfold wc
  rw [if_pos hK, e]
  by_cases g : cstA true P (gN P k).B.toNat ≤ cstA true P (gN P k).A.toNat
  · rw [if_pos g, if_neg (by omega)]; exact .inl ⟨rfl, rfl, g⟩
  · rw [if_neg g, if_pos (by omega)]; exact .inr ⟨rfl, rfl, by omega⟩
theorem wch_len (h : nodesOk P) : ∀ (n k : Nat), k ≤ n → k < P.length → ((wch P k).length : Int) ≤ cstA true P k
  | n, k, hn, hk => by
    have ho := h k hk
    have ho' := ho
    have hp := cost_pos h k k (Nat.le_refl _) hk
    unfold ndOk at ho
    rcases ho with h1 | h2 | h3 | h4
    · rw [wch_one h1.1]; simp; omega
    · obtain ⟨e, hA, hB⟩ := cost_two true ho' h2.1
      match n, hn with
      | 0, hn => omega
      | n + 1, hn =>
        have := wch_len h n _ (show (gN P k).A.toNat ≤ n by omega) (by omega)
        have := wch_len h n _ (show (gN P k).B.toNat ≤ n by omega) (by omega)
        rw [wch_two h hk h2.1, List.length_append]; omega
    · obtain ⟨e, hA, hB, hC⟩ := cost_three ho' h3.1
      match n, hn with
      | 0, hn => omega
      | n + 1, hn =>
        have := wch_len h n _ (show (gN P k).A.toNat ≤ n by omega) (by omega)
        have := wch_len h n _ (show (gN P k).B.toNat ≤ n by omega) (by omega)
        rw [wch_three h hk h3.1, List.length_cons]
        rcases wc_time h hk h3.1 with ⟨g1, g2, g3⟩ | ⟨g1, g2, g3⟩
        · rw [g1, if_pos rfl]; omega
        · rw [g1, if_neg (by decide)]; omega
    · obtain ⟨e, hA, hC, hb0, hb1⟩ := cost_four ho' h4.1
      match n, hn with
      | 0, hn => omega
      | n + 1, hn =>
        have h5 := wch_len h n _ (show (gN P k).A.toNat ≤ n by omega) (by omega)
        rw [wch_four h hk h4.1, List.length_cons, List.length_flatten]
        simp only [List.map_replicate, List.sum_replicate_nat]
        rw [e]
        have hbb : (gN P k).Bd = 0 ∨ (gN P k).Bd = 1 ∨ (gN P k).Bd = 2 ∨ (gN P k).Bd = 3 ∨ (gN P k).Bd = 4 := by omega
        rcases hbb with g | g | g | g | g <;> rw [g] <;> simp <;> omega
end
end Go.Ds
