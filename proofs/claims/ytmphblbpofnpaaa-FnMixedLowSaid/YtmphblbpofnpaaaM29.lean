import Derived.Test.YtmphblbpofnpaaaM28
import Derived.Test.YtmphblbpofnpaaaMM
namespace Go.Ds
def cntQ (L : List Job) (k : Int) (Q : Nat → Bool) : Int := sumI (fun i => if (L.getD i default).T = k ∧ Q i = true then 1 else 0) L.length
theorem cntQ_nonneg (L : List Job) (k : Int) (Q : Nat → Bool) : 0 ≤ cntQ L k Q := by
  have : sumI (fun _ => (0 : Int)) L.length ≤ cntQ L k Q := sumI_le fun i _ => by split <;> omega
  rwa [sumI_zero (fun _ _ => rfl)] at this
theorem short_getD {L : List Job} {i : Nat} (h : i < L.length) : (shortL L).getD i default = shortJ (L.getD i default) := by
  simp [shortL, List.getD_eq_getElem?_getD, h]
theorem cntQ_win {S : List MTask} {L : List Job} (h : mixLegal S L) {k : Int} (hk : 0 ≤ k ∧ k < S.length) {Q : Nat → Bool} {lo hi : Int} (hQ : ∀ i, i < L.length → (L.getD i default).T = k → Q i = true → lo ≤ (L.getD i default).R ∧ (L.getD i default).R ≤ hi) :
    cntQ L k Q = 0 ∨ (1 ≤ cntQ L k Q ∧ lo ≤ hi ∧ (cntQ L k Q - 1) * (gM S k).P ≤ hi - lo) := by
  have hn := cntQ_nonneg L k Q
  by_cases hlh : lo ≤ hi
  · by_cases h0 : cntQ L k Q = 0
    · exact .inl h0
    · refine .inr ⟨by omega, hlh, ?_⟩
      have hj := (legal_zero _ _).2 h.jobs.2
      have hl : (shortL L).length = L.length := by simp [shortL]
      have hp : (plainS S).length = S.length := by simp [plainS]
      have hc := cntW_le hj (k := k) (t := lo) (w := hi - lo + 1) ⟨hk.1, by omega⟩ (by omega)
      rw [gI_zeros, plain_gT hk.1 hk.2, hl] at hc
      simp only at hc
      have hP := gM_ok h.1 hk.1 hk.2
      unfold MTask.ok at hP
      have hle : cntQ L k Q ≤ cntW (shortL L) k lo (hi - lo + 1) L.length := by
        refine sumI_le fun i hi' => ?_
        split
        · rename_i hw
          rw [if_pos]
          · exact Int.le_refl _
          · unfold inWin
            rw [short_getD hi', decide_eq_true_iff]
            have := hQ i hi' hw.1 hw.2
            exact ⟨hw.1, this.1, by show (L.getD i default).R < _; omega⟩
        · split <;> omega
      have h2 := (Int.le_ediv_iff_mul_le (show 0 < (gM S k).P by omega)).1 (Int.le_trans hle hc)
      rw [Int.sub_mul]
      omega
  · refine .inl (sumI_zero fun i hi' => ?_)
    rw [if_neg]
    rintro ⟨h1, h2⟩
    have := hQ i hi' h1 h2
    omega
theorem sumI_at {v : Int} {t : Int} : ∀ m : Nat, 0 ≤ t → sumI (fun k => if t = (k : Int) then v else 0) m = if t < m then v else 0
  | 0, h => by rw [if_neg (by omega)]; rfl
  | m + 1, h => by
    simp only [sumI]
    rw [sumI_at m h]
    by_cases h1 : t = (m : Int)
    · rw [if_neg (by omega), if_pos h1, if_pos (by omega)]; omega
    · rw [if_neg h1]
      by_cases h2 : t < (m : Int)
      · rw [if_pos h2, if_pos (by omega)]; omega
      · rw [if_neg h2, if_neg (by omega)]; omega
theorem sumI_task {f : Nat → Int} {T : Nat → Int} {m : Nat} : ∀ n : Nat, (∀ i, i < n → 0 ≤ T i ∧ T i < m) → sumI f n = sumI (fun k => sumI (fun i => if T i = (k : Int) then f i else 0) n) m
  | 0, _ => (sumI_zero fun _ _ => rfl).symm
  | n + 1, h => by
    have ih := sumI_task (f := f) n fun i hi => h i (by omega)
    have hT := h n (by omega)
    rw [sumI_add (h := fun k : Nat => sumI (fun i => if T i = (k : Int) then f i else 0) (n + 1)) (f := fun k : Nat => sumI (fun i => if T i = (k : Int) then f i else 0) n) (g := fun k : Nat => if T n = (k : Int) then f n else 0) (fun i _ => rfl), sumI_at m hT.1, if_pos hT.2, ← ih]
    rfl
theorem foldl_sum (f : MTask → Int) (S : List MTask) : ∀ n : Nat, n ≤ S.length → (S.take n).foldl (fun a t => a + f t) 0 = sumI (fun k => f (gM S k)) n
  | 0, _ => rfl
  | n + 1, h => by
    rw [List.take_succ_eq_append_getElem (show n < S.length by omega), List.foldl_append, foldl_sum f S n (by omega)]
    simp only [List.foldl_cons, List.foldl_nil, sumI]
    rw [gM_nat (show n < S.length by omega)]
theorem foldl_all (f : MTask → Int) (S : List MTask) : S.foldl (fun a t => a + f t) 0 = sumI (fun k => f (gM S k)) S.length := by
  have := foldl_sum f S S.length (Nat.le_refl _)
  rwa [List.take_length] at this
/-- What the factor keeps. -/
structure ScaleOk (S : List MTask) (nu de : Int) : Prop where
  pos : 0 < nu ∧ nu ≤ de
  low : de * uVit S 27720 + nu * uLow S 27720 ≤ nu * 27720
  high : de * uHigh S 27720 + nu * uLow S 27720 ≤ de * 27720
theorem per_dvd {S : List MTask} (hS : mixOk S) {k : Nat} (hk : k < S.length) : (gM S k).P * (27720 / (gM S k).P) = 27720 := by
  have h := (gM_ok hS (show (0 : Int) ≤ k by omega) (by omega))
  unfold MTask.ok at h
  generalize (gM S k).P = p at h ⊢
  have : p = 1 ∨ p = 2 ∨ p = 3 ∨ p = 4 ∨ p = 5 ∨ p = 6 ∨ p = 7 ∨ p = 8 ∨ p = 9 ∨ p = 10 ∨ p = 11 ∨ p = 12 := by omega
  rcases this with e | e | e | e | e | e | e | e | e | e | e | e <;> subst e <;> decide
theorem scaleAt_ok {S : List MTask} (hS : mixOk S) {nu de : Int} (h : scaleOf S = some (nu, de)) : ScaleOk S nu de := by
  have hvh : 0 ≤ uVit S 27720 ∧ uVit S 27720 ≤ uHigh S 27720 := by
    unfold uVit uHigh
    rw [foldl_all (fun t => if t.V = true then t.Lo * (27720 / t.P) else 0), foldl_all (fun t => if t.V = true then t.Hi * (27720 / t.P) else 0)]
    constructor
    · refine Int.le_trans (Int.le_of_eq (sumI_zero (f := fun _ => 0) (n := S.length) fun _ _ => rfl).symm) (sumI_le fun i hi => ?_)
      have hok := gM_ok hS (show (0 : Int) ≤ i by omega) (show (i : Int) < S.length by omega)
      unfold MTask.ok at hok
      split
      · exact Int.mul_nonneg (by omega) (Int.ediv_nonneg (by omega) (by omega))
      · exact Int.le_refl _
    · refine sumI_le fun i hi => ?_
      have hok := gM_ok hS (show (0 : Int) ≤ i by omega) (show (i : Int) < S.length by omega)
      unfold MTask.ok at hok
      split
      · exact Int.mul_le_mul_of_nonneg_right (by omega) (Int.ediv_nonneg (by omega) (by omega))
      · exact Int.le_refl _
  unfold scaleOf scaleAt at h
  refine (fun (g : (0 < nu ∧ nu ≤ de) ∧ de * uVit S 27720 + nu * uLow S 27720 ≤ nu * 27720 ∧ de * uHigh S 27720 + nu * uLow S 27720 ≤ de * 27720) => ⟨g.1, g.2.1, g.2.2⟩) ?_
  generalize uLow S 27720 = a at h ⊢
  generalize uVit S 27720 = b at h hvh ⊢
  generalize uHigh S 27720 = c at h hvh ⊢
  split at h
  · rename_i h1
    cases h
    refine ⟨⟨by omega, by omega⟩, by omega, by omega⟩
  · split at h
    · rename_i h1 h2
      obtain ⟨g1, g2, g3, g4⟩ := h2
      have hgpos : 0 < Nat.gcd b.toNat (27720 - a).toNat := Nat.gcd_pos_of_pos_left _ (by omega)
      obtain ⟨p, hp⟩ := Nat.gcd_dvd_left b.toNat (27720 - a).toNat
      obtain ⟨q, hq⟩ := Nat.gcd_dvd_right b.toNat (27720 - a).toNat
      generalize Nat.gcd b.toNat (27720 - a).toNat = g at hgpos hp hq h
      have hb : b = (g : Int) * p := by
        have : ((b.toNat : Nat) : Int) = ((g * p : Nat) : Int) := by rw [← hp]
        rw [Int.natCast_mul] at this
        omega
      have hr : 27720 - a = (g : Int) * q := by
        have : (((27720 - a).toNat : Nat) : Int) = ((g * q : Nat) : Int) := by rw [← hq]
        rw [Int.natCast_mul] at this
        omega
      have e1 : b / (g : Int) = p := by rw [hb]; exact Int.mul_ediv_cancel_left _ (by omega)
      have e2 : (27720 - a) / (g : Int) = q := by rw [hr]; exact Int.mul_ediv_cancel_left _ (by omega)
      simp only [Option.some.injEq, Prod.mk.injEq] at h
      obtain ⟨rfl, rfl⟩ := h
      rw [e1, e2]
      have hg1 : (1 : Int) ≤ g := by omega
      have hple : (g : Int) * p ≤ g * q := by omega
      refine ⟨⟨?_, Int.le_of_mul_le_mul_left hple (by omega)⟩, ?_, ?_⟩
      · apply Classical.byContradiction
        intro hn
        have : (g : Int) * p ≤ g * 0 := Int.mul_le_mul_of_nonneg_left (by omega) (by omega)
        omega
      · refine Int.le_of_eq ?_
        have e3 : (p : Int) * 27720 = p * a + p * (27720 - a) := by rw [← Int.mul_add]; congr 1; omega
        rw [e3, hb, hr, Int.add_comm, ← Int.mul_assoc, ← Int.mul_assoc, Int.mul_comm (q : Int) g, Int.mul_comm (p : Int) g, Int.mul_assoc, Int.mul_assoc, Int.mul_comm (q : Int) p]
      · have e3 : (g : Int) * (q * c + p * a) ≤ g * (q * 27720) := by
          rw [Int.mul_add, ← Int.mul_assoc, ← Int.mul_assoc, ← Int.mul_assoc, ← hb, ← hr, Int.mul_comm (27720 - a) c, Int.mul_comm (27720 - a) 27720]
          omega
        exact Int.le_of_mul_le_mul_left e3 (by omega)
    · cases h
theorem demand {S : List MTask} (hS : mixOk S) {nu de : Int} (ok : ScaleOk S nu de) {X Z : Int} (hX : 0 ≤ X) (hZ : 0 ≤ Z) {F : Nat → Int}
    (hv : ∀ k, k < S.length → (gM S k).V = true → F k * (gM S k).P * (nu * de) ≤ de * (X * (gM S k).Lo + Z * (gM S k).Hi))
    (hn : ∀ k, k < S.length → (gM S k).V = false → F k * (gM S k).P * (nu * de) ≤ nu * ((X + Z) * (gM S k).Lo)) : sumI F S.length * (nu * de) ≤ X * nu + Z * de := by
  have e1 : sumI (fun k => F k * (nu * de * 27720)) S.length ≤ uLow S 27720 * (nu * (X + Z)) + uVit S 27720 * (de * X) + uHigh S 27720 * (de * Z) := by
    unfold uLow uVit uHigh
    rw [foldl_all (fun t => if t.V = true then 0 else t.Lo * (27720 / t.P)), foldl_all (fun t => if t.V = true then t.Lo * (27720 / t.P) else 0), foldl_all (fun t => if t.V = true then t.Hi * (27720 / t.P) else 0), ← sumI_mul, ← sumI_mul, ← sumI_mul]
    rw [← sumI_add (h := fun k : Nat => (if (gM S k).V = true then 0 else (gM S k).Lo * (27720 / (gM S k).P)) * (nu * (X + Z)) + (if (gM S k).V = true then (gM S k).Lo * (27720 / (gM S k).P) else 0) * (de * X)) (fun i _ => rfl)]
    rw [← sumI_add (h := fun k : Nat => (if (gM S k).V = true then 0 else (gM S k).Lo * (27720 / (gM S k).P)) * (nu * (X + Z)) + (if (gM S k).V = true then (gM S k).Lo * (27720 / (gM S k).P) else 0) * (de * X) + (if (gM S k).V = true then (gM S k).Hi * (27720 / (gM S k).P) else 0) * (de * Z)) (fun i _ => rfl)]
    refine sumI_le fun k hk => ?_
    have hd := per_dvd hS hk
    have hok := gM_ok hS (show (0 : Int) ≤ k by omega) (show (k : Int) < S.length by omega)
    unfold MTask.ok at hok
    have hq : 0 ≤ 27720 / (gM S k).P := Int.ediv_nonneg (by omega) (by omega)
    have hv := hv k hk
    have hn := hn k hk
    generalize (gM S k).P = p at *
    generalize 27720 / p = q at *
    generalize (gM S k).Lo = lo at *
    generalize (gM S k).Hi = hi at *
    rw [← hd]
    have hl : F k * (nu * de * (p * q)) = F k * p * (nu * de) * q := by
      simp only [Int.mul_assoc, Int.mul_comm, Int.mul_left_comm]
    rw [hl]
    cases hV : (gM S k).V with
    | true =>
      simp only [if_true, Int.zero_mul, Int.zero_add]
      refine Int.le_trans (Int.mul_le_mul_of_nonneg_right (hv hV) hq) (Int.le_of_eq ?_)
      simp only [Int.mul_add, Int.add_mul, Int.mul_assoc, Int.mul_comm, Int.mul_left_comm]
    | false =>
      simp only [Bool.false_eq_true, if_false, Int.zero_mul, Int.add_zero]
      refine Int.le_trans (Int.mul_le_mul_of_nonneg_right (hn hV) hq) (Int.le_of_eq ?_)
      simp only [Int.mul_add, Int.add_mul, Int.mul_assoc, Int.mul_comm, Int.mul_left_comm]
  rw [sumI_mul] at e1
  have h1 := Int.mul_le_mul_of_nonneg_left ok.low hX
  have h2 := Int.mul_le_mul_of_nonneg_left ok.high hZ
  generalize uLow S 27720 = a at *
  generalize uVit S 27720 = b at *
  generalize uHigh S 27720 = c at *
  have e2 : sumI F S.length * (nu * de) * 27720 ≤ (X * nu + Z * de) * 27720 := by
    have r1 : sumI F S.length * (nu * de * 27720) = sumI F S.length * (nu * de) * 27720 := by simp only [Int.mul_assoc]
    have r2 : a * (nu * (X + Z)) + b * (de * X) + c * (de * Z) = X * (de * b + nu * a) + Z * (de * c + nu * a) := by
      have t1 : a * (nu * (X + Z)) = X * (nu * a) + Z * (nu * a) := by
        rw [Int.mul_add, Int.mul_add]
        simp only [Int.mul_assoc, Int.mul_comm, Int.mul_left_comm]
      have t2 : b * (de * X) = X * (de * b) := by simp only [Int.mul_assoc, Int.mul_comm, Int.mul_left_comm]
      have t3 : c * (de * Z) = Z * (de * c) := by simp only [Int.mul_assoc, Int.mul_comm, Int.mul_left_comm]
      rw [t1, t2, t3, Int.mul_add, Int.mul_add]
      omega
    have r3 : (X * nu + Z * de) * 27720 = X * (nu * 27720) + Z * (de * 27720) := by
      rw [Int.add_mul, Int.mul_assoc, Int.mul_assoc]
    rw [r3, ← r1]
    rw [r2] at e1
    exact Int.le_trans e1 (Int.add_le_add h1 h2)
  omega
end Go.Ds
