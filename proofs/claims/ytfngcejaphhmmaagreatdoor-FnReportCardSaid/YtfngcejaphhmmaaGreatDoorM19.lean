import Derived.Test.YtfngcejaphhmmaaGreatDoorM15
import Derived.Test.YtfngcejaphhmmaaGreatDoorMM
namespace Go.Ds
theorem dbf1_pos {x : Task} (h : x.ok) (t : Int) : 0 ≤ dbf1 x t := by
  unfold Task.ok at h
  unfold dbf1
  split
  · have h1 : 0 ≤ (t - x.D) / x.P := Int.ediv_nonneg (by omega) (by omega)
    exact Int.mul_nonneg (by omega) (by omega)
  · omega
theorem dbf_cons (x : Task) (S : List Task) (t : Int) : dbf (x :: S) t = dbf1 x t + dbf S t := by
  unfold dbf
  rw [List.foldl_cons, dbf_foldl]; omega
theorem dbf_sub {T S : List Task} (h : T.Sublist S) (hS : ∀ x ∈ S, x.ok) (t : Int) : dbf T t ≤ dbf S t := by
  induction h with
  | slnil => exact Int.le_refl _
  | cons a _ ih =>
    have h1 := ih fun x hx => hS x (List.mem_cons_of_mem _ hx)
    have h2 := dbf1_pos (hS a (List.mem_cons_self ..)) t
    rw [dbf_cons]; omega
  | cons_cons a _ ih =>
    have h1 := ih fun x hx => hS x (List.mem_cons_of_mem _ hx)
    rw [dbf_cons, dbf_cons]; omega
theorem hyperN_least {M : Nat} : ∀ (T : List Task), (∀ x ∈ T, x.P.toNat ∣ M) → hyperN T ∣ M := by
  have key : ∀ (T : List Task) (a : Nat), a ∣ M → (∀ x ∈ T, x.P.toNat ∣ M) → T.foldl (fun h x => Nat.lcm h x.P.toNat) a ∣ M := by
    intro T
    induction T with
    | nil => intro a ha _; exact ha
    | cons x T ih =>
      intro a ha h
      rw [List.foldl_cons]
      exact ih _ (Nat.lcm_dvd ha (h x (List.mem_cons_self ..))) fun y hy => h y (List.mem_cons_of_mem _ hy)
  exact fun T h => key T 1 (Nat.one_dvd _) h
theorem hyperN_per {S : List Task} (hS : setOk S) {x : Task} (hx : x ∈ S) : x.P.toNat ∣ hyperN S := by
  obtain ⟨i, hi, rfl⟩ := List.getElem_of_mem hx
  have h := (hyperN_dvd hS S.length (Nat.le_refl _)).2 i hi hi
  rwa [List.take_length] at h
theorem setOk_sub {T S : List Task} (h : T.Sublist S) (hS : setOk S) : setOk T := ⟨Nat.le_trans h.length_le hS.1, fun t ht => hS.2 t (h.subset ht)⟩
theorem hyperN_pos {S : List Task} (hS : setOk S) : 1 ≤ hyperN S ∧ hyperN S ≤ 27720 := by
  have h := hyperN_bound hS (Nat.le_refl S.length)
  rwa [List.take_length] at h
theorem hyperN_sub {T S : List Task} (h : T.Sublist S) (hS : setOk S) : hyperN T ≤ hyperN S :=
  Nat.le_of_dvd (hyperN_pos hS).1 (hyperN_least T fun x hx => hyperN_per hS (h.subset hx))
theorem feas_sub {T S : List Task} (h : T.Sublist S) (hS : feas S) : feas T :=
  ⟨setOk_sub h hS.1, fun t h1 h2 => Int.le_trans (dbf_sub h hS.1.2 t) (hS.2 t h1 (by have := hyperN_sub h hS.1; omega))⟩
theorem feas_nil : feas [] := ⟨⟨by simp, by simp⟩, fun t h1 _ => by simp [dbf]; omega⟩
theorem feas_one {x : Task} (h : x.ok) : feas [x] := by
  refine ⟨⟨by simp, by simpa using h⟩, fun t h1 _ => ?_⟩
  rw [dbf_cons]
  have : dbf [] t = 0 := rfl
  rw [this, Int.add_zero]
  unfold Task.ok at h
  unfold dbf1
  split
  · rename_i hD
    have h2 : 0 ≤ (t - x.D) / x.P := Int.ediv_nonneg (by omega) (by omega)
    have h3 : (t - x.D) / x.P * x.P ≤ t - x.D := Int.ediv_mul_le _ (by omega)
    generalize (t - x.D) / x.P = k at *
    have h4 : k * x.C ≤ k * x.P := Int.mul_le_mul_of_nonneg_left (by omega) h2
    have h5 : (k + 1) * x.C = k * x.C + x.C := by rw [Int.add_mul, Int.one_mul]
    omega
  · omega
theorem zip_fst_sub : ∀ (S : List Task) (A : List Int), ((S.zip A).map (·.1)).Sublist S
  | [], _ => by simp
  | x :: S, [] => by simp
  | x :: S, a :: A => by
    rw [List.zip_cons_cons, List.map_cons]
    exact (zip_fst_sub S A).cons_cons x
def onC (S : List Task) (A : List Int) (c : Int) (k : Nat) : List Task := (((S.zip A).take k).filter (fun p => decide (p.2 = c))).map (·.1)
theorem onC_zero (S : List Task) (A : List Int) (c : Int) : onC S A c 0 = [] := by simp [onC]
theorem onC_snoc {S : List Task} {A : List Int} (c : Int) {k : Nat} (h : k < S.length) (h' : k < A.length) : onC S A c (k + 1) = onC S A c k ++ (if gI A k = c then [gT S k] else []) := by
  have hz : k < (S.zip A).length := by rw [List.length_zip]; omega
  unfold onC
  rw [List.take_succ_eq_append_getElem hz, List.filter_append, List.map_append]
  congr 1
  have e1 : gI A k = A[k] := by simp [gI, List.getD_eq_getElem?_getD, h']
  have e2 : gT S k = S[k] := by simp [gT, List.getD_eq_getElem?_getD, h]
  rw [List.getElem_zip, e1, e2]
  by_cases e : A[k] = c
  · simp [e]
  · simp [e]
theorem onC_sub (S : List Task) (A : List Int) (c : Int) (k : Nat) : (onC S A c k).Sublist S := by
  unfold onC
  refine List.Sublist.trans ((List.filter_sublist.trans (List.take_sublist _ _)).map _) ?_
  exact zip_fst_sub S A
theorem onC_congr {S : List Task} {A A' : List Int} {c c' : Int} : ∀ k, k ≤ S.length → k ≤ A.length → k ≤ A'.length → (∀ i, i < k → (gI A i = c ↔ gI A' i = c')) → onC S A c k = onC S A' c' k := by
  intro k
  induction k with
  | zero => intros; rw [onC_zero, onC_zero]
  | succ k ih =>
    intro h1 h2 h3 h
    rw [onC_snoc c (by omega) (by omega), onC_snoc c' (by omega) (by omega), ih (by omega) (by omega) (by omega) fun i hi => h i (by omega)]
    congr 1
    by_cases e : gI A k = c
    · rw [if_pos e, if_pos ((h k (by omega)).1 e)]
    · rw [if_neg e, if_neg fun h' => e ((h k (by omega)).2 h')]
theorem onC_all {S : List Task} {A : List Int} {c : Int} : ∀ k, k ≤ S.length → k ≤ A.length → (∀ i, i < k → gI A i = c) → onC S A c k = S.take k := by
  intro k
  induction k with
  | zero => intros; rw [onC_zero, List.take_zero]
  | succ k ih =>
    intro h1 h2 h
    have e2 : gT S k = S[k] := by simp [gT, List.getD_eq_getElem?_getD, show k < S.length by omega]
    rw [onC_snoc c (by omega) (by omega), ih (by omega) (by omega) fun i hi => h i (by omega), if_pos (h k (by omega)), List.take_succ_eq_append_getElem (show k < S.length by omega), e2]
theorem onC_no {S : List Task} {A : List Int} {c : Int} : ∀ k, k ≤ S.length → k ≤ A.length → (∀ i, i < k → gI A i ≠ c) → onC S A c k = [] := by
  intro k
  induction k with
  | zero => intros; rw [onC_zero]
  | succ k ih =>
    intro h1 h2 h
    rw [onC_snoc c (by omega) (by omega), ih (by omega) (by omega) fun i hi => h i (by omega), if_neg (h k (by omega))]; rfl
def feasA (S : List Task) (m : Nat) (A : List Int) : Prop := A.length = S.length ∧ (∀ x ∈ A, 0 ≤ x ∧ x < m) ∧ ∀ c : Int, 0 ≤ c → c < m → feas (onC S A c S.length)
def topN (A : List Int) : Nat := A.foldl (fun t a => max t (a.toNat + 1)) 0
theorem topN_snoc (A : List Int) (a : Int) : topN (A ++ [a]) = max (topN A) (a.toNat + 1) := by unfold topN; rw [List.foldl_append]; rfl
noncomputable def dfs (S : List Task) (m : Nat) : Nat → List Int → Option (List Int)
  | 0, A => some A
  | n + 1, A => (List.range (min m (topN A + 1))).findSome? fun (c : Nat) => if feas (onC S (A ++ [(c : Int)]) c (A.length + 1)) then dfs S m n (A ++ [(c : Int)]) else none
theorem gI_left {A : List Int} {R : List Int} {i : Nat} (h : i < A.length) : gI (A ++ R) i = gI A i := by
  simp [gI, List.getD_eq_getElem?_getD, List.getElem?_append_left h]
theorem gI_end (A : List Int) (x : Int) : gI (A ++ [x]) A.length = x := by simp [gI, List.getD_eq_getElem?_getD]
theorem gI_mem {A : List Int} {i : Nat} (h : i < A.length) : gI A i ∈ A := by
  have : gI A i = A[i] := by simp [gI, List.getD_eq_getElem?_getD, h]
  rw [this]; exact List.getElem_mem h
theorem mem_gI {A : List Int} {x : Int} (h : x ∈ A) : ∃ i, i < A.length ∧ gI A i = x := by
  obtain ⟨i, hi, rfl⟩ := List.getElem_of_mem h
  exact ⟨i, hi, by simp [gI, List.getD_eq_getElem?_getD, hi]⟩
def Cov (A : List Int) : Prop := (∀ x ∈ A, 0 ≤ x ∧ x < topN A) ∧ ∀ c : Nat, c < topN A → (c : Int) ∈ A
theorem Cov.nil : Cov [] := ⟨by simp, fun c h => absurd h (by simp [topN])⟩
theorem Cov.snoc {A : List Int} (h : Cov A) {c : Nat} (hc : c ≤ topN A) : Cov (A ++ [(c : Int)]) := by
  obtain ⟨h1, h2⟩ := h
  have e := topN_snoc A (c : Int)
  rw [Int.toNat_natCast] at e
  refine ⟨fun x hx => ?_, fun d hd => ?_⟩
  · rcases List.mem_append.1 hx with hx | hx
    · have := h1 x hx; omega
    · rw [List.mem_singleton] at hx; omega
  · rw [List.mem_append, List.mem_singleton]
    by_cases e2 : d < topN A
    · exact .inl (h2 d e2)
    · exact .inr (by omega)
def PlaceOk (S : List Task) (m : Nat) (B : List Int) (i : Nat) : Prop := 0 ≤ gI B i ∧ gI B i < m ∧ gI B i ≤ topN (B.take i) ∧ feas (onC S B (gI B i) (i + 1))
theorem dfs_sound {S : List Task} {m : Nat} {B : List Int} : ∀ n A, A.length + n = S.length → dfs S m n A = some B → B.length = S.length ∧ (∃ R, B = A ++ R) ∧ ∀ i, A.length ≤ i → i < B.length → PlaceOk S m B i := by
  intro n
  induction n with
  | zero =>
    intro A hl h
    simp only [dfs, Option.some.injEq] at h
    subst h
    exact ⟨by omega, ⟨[], by simp⟩, fun i h1 h2 => absurd h2 (by omega)⟩
  | succ n ih =>
    intro A hl h
    obtain ⟨c, hc, h⟩ := List.exists_of_findSome?_eq_some h
    rw [List.mem_range] at hc
    by_cases hf : feas (onC S (A ++ [(c : Int)]) c (A.length + 1))
    · rw [if_pos hf] at h
      obtain ⟨h1, ⟨R, rfl⟩, h3⟩ := ih _ (by rw [List.length_append, List.length_singleton]; omega) h
      refine ⟨h1, ⟨(c : Int) :: R, by simp⟩, fun i hi hi2 => ?_⟩
      rcases Nat.lt_or_eq_of_le hi with hi | rfl
      · exact h3 i (by rw [List.length_append, List.length_singleton]; omega) hi2
      · have e : gI (A ++ [(c : Int)] ++ R) A.length = c := by rw [gI_left (by simp), gI_end]
        refine ⟨by omega, by omega, ?_, ?_⟩
        · rw [e, List.append_assoc, List.take_left]; omega
        · rw [e]
          rw [onC_congr (A' := A ++ [(c : Int)]) (c' := (c : Int)) (A.length + 1) (by omega) (by simp) (by simp) (fun i hi => by rw [gI_left (by simp; omega)])]
          exact hf
    · rw [if_neg hf] at h; cases h
theorem place_feas {S : List Task} {m : Nat} {B : List Int} (hl : B.length = S.length) (h : ∀ i, i < B.length → feas (onC S B (gI B i) (i + 1))) (c : Int) : ∀ k, k ≤ S.length → feas (onC S B c k) := by
  intro k
  induction k with
  | zero => intro _; rw [onC_zero]; exact feas_nil
  | succ k ih =>
    intro hk
    by_cases e : gI B k = c
    · rw [← e]; exact h k (by omega)
    · rw [onC_snoc c (by omega) (by omega), if_neg e, List.append_nil]; exact ih (by omega)
theorem first_hit {β : Type} {f : Nat → Option β} {k c : Nat} (hc : c < k) {b : β} (hb : f c = some b) : ∃ d, d ≤ c ∧ ∃ b', f d = some b' ∧ (List.range k).findSome? f = some b' ∧ (d = c → b' = b) := by
  induction k with
  | zero => omega
  | succ k ih =>
    rw [List.range_succ, List.findSome?_append]
    rcases Nat.lt_or_eq_of_le (Nat.le_of_lt_succ hc) with h | rfl
    · obtain ⟨d, h1, b', h2, h3, h4⟩ := ih h
      exact ⟨d, h1, b', h2, by rw [h3]; rfl, h4⟩
    · cases hn : (List.range c).findSome? f with
      | none => exact ⟨c, Nat.le_refl _, b, hb, by simp [hb], fun _ => rfl⟩
      | some x =>
        obtain ⟨d, hd, h2⟩ := List.exists_of_findSome?_eq_some hn
        rw [List.mem_range] at hd
        exact ⟨d, by omega, x, h2, rfl, fun h => absurd h (by omega)⟩
end Go.Ds
