import Derived.Test.YtmphblbpofnpaaaM44
namespace Go.Ds
theorem sumJ_at {v : Int} {t : Int} : ∀ m : Nat, 0 ≤ t → sumI (fun k => if t = (k : Int) then v else 0) m = if t < m then v else 0
  | 0, h => by rw [if_neg (by omega)]; rfl
  | m + 1, h => by
    simp only [sumI]
    rw [sumJ_at m h]
    by_cases h1 : t = (m : Int)
    · rw [if_neg (by omega), if_pos h1, if_pos (by omega)]; omega
    · rw [if_neg h1]
      by_cases h2 : t < (m : Int)
      · rw [if_pos h2, if_pos (by omega)]; omega
      · rw [if_neg h2, if_neg (by omega)]; omega
theorem sumJ_task {f : Nat → Int} {T : Nat → Int} {m : Nat} : ∀ n : Nat, (∀ i, i < n → 0 ≤ T i ∧ T i < m) → sumI f n = sumI (fun k => sumI (fun i => if T i = (k : Int) then f i else 0) n) m
  | 0, _ => (sumI_zero fun _ _ => rfl).symm
  | n + 1, h => by
    have ih := sumJ_task (f := f) n fun i hi => h i (by omega)
    have hT := h n (by omega)
    rw [sumI_add (h := fun k : Nat => sumI (fun i => if T i = (k : Int) then f i else 0) (n + 1)) (f := fun k : Nat => sumI (fun i => if T i = (k : Int) then f i else 0) n) (g := fun k : Nat => if T n = (k : Int) then f n else 0) (fun i _ => rfl), sumJ_at m hT.1, if_pos hT.2, ← ih]
    rfl
theorem sumJ_one {f : Nat → Int} {b : Int} (hb : 0 ≤ b) : ∀ {n : Nat}, (∀ i, i < n → f i = 0 ∨ f i ≤ b) → (∀ i k, i < k → k < n → f i = 0 ∨ f k = 0) → sumI f n ≤ b
  | 0, _, _ => hb
  | n + 1, h, g => by
    simp only [sumI]
    rcases h n (by omega) with e | e
    · rw [e]
      have := sumJ_one hb (n := n) (fun i hi => h i (by omega)) (fun i k hi hk => g i k hi (by omega))
      omega
    · by_cases h0 : f n = 0
      · rw [h0]
        have := sumJ_one hb (n := n) (fun i hi => h i (by omega)) (fun i k hi hk => g i k hi (by omega))
        omega
      · have : sumI f n = 0 := sumI_zero fun i hi => by
          rcases g i n hi (by omega) with e | e
          · exact e
          · exact absurd e h0
        omega
def densT (t : Task) : Int := 27720 / t.D * t.C
def densG (S : List Task) (k : Int) : Int := densT (gT S k)
def densSum (S : List Task) : Int := sumI (fun k => densG S k) S.length
def densMax (S : List Task) : Nat → Int
  | 0 => 0
  | k + 1 => if densMax S k < densG S k then densG S k else densMax S k
theorem densMax_le (S : List Task) : ∀ {n k : Nat}, k < n → densG S k ≤ densMax S n
  | n + 1, k, h => by
    simp only [densMax]
    rcases Nat.lt_succ_iff_lt_or_eq.1 h with h1 | h1
    · have := densMax_le S h1
      split <;> omega
    · subst h1; split <;> omega
theorem densMax_nn (S : List Task) : ∀ n, 0 ≤ densMax S n
  | 0 => Int.le_refl _
  | n + 1 => by
    have := densMax_nn S n
    simp only [densMax]; split <;> omega
def densOk (S : List Task) (m : Int) : Prop := densSum S ≤ m * 27720 - (m - 1) * densMax S S.length
def partJ (S : List Task) (j : Job) : Int := 27720 / (gT S j.T).D * j.E
def clampT (j : Job) (t : Nat) : Int := if (t : Int) ≤ j.R then 0 else if (t : Int) ≤ j.D then t - j.R else j.D - j.R
def fluJ (S : List Task) (j : Job) (t : Nat) : Int := partJ S j * clampT j t
theorem div_fit {D : Int} (h : 1 ≤ D ∧ D ≤ 12) : 27720 / D * D = 27720 ∧ 0 ≤ 27720 / D := by
  have : D = 1 ∨ D = 2 ∨ D = 3 ∨ D = 4 ∨ D = 5 ∨ D = 6 ∨ D = 7 ∨ D = 8 ∨ D = 9 ∨ D = 10 ∨ D = 11 ∨ D = 12 := by omega
  rcases this with rfl | rfl | rfl | rfl | rfl | rfl | rfl | rfl | rfl | rfl | rfl | rfl <;> decide
section
variable {S : List Task} {L : List Job} {M : Nat}
theorem gl_row (h : jobsLegal S L) {i : Nat} (hi : i < L.length) : (0 ≤ (L.getD i default).T ∧ (L.getD i default).T < S.length) ∧ 0 ≤ (L.getD i default).R ∧ 1 ≤ (L.getD i default).E ∧ (L.getD i default).E ≤ (gT S (L.getD i default).T).C ∧ (L.getD i default).D = (L.getD i default).R + (gT S (L.getD i default).T).D ∧
    (1 ≤ (gT S (L.getD i default).T).C ∧ (gT S (L.getD i default).T).C ≤ (gT S (L.getD i default).T).D ∧ (gT S (L.getD i default).T).D ≤ (gT S (L.getD i default).T).P ∧ (gT S (L.getD i default).T).P ≤ 12) := by
  have hm := h.2.1.mem (getD_mem hi)
  have h4 := h.2.2.2 _ (getD_mem hi)
  have ht := gT_ok h.1 hm.1.1 hm.1.2
  unfold Task.ok at ht
  have hc : costOf S (L.getD i default).T = (gT S (L.getD i default).T).C := rfl
  omega
theorem part_le (h : jobsLegal S L) {i : Nat} (hi : i < L.length) : 0 ≤ partJ S (L.getD i default) ∧ partJ S (L.getD i default) ≤ densG S (L.getD i default).T := by
  have hr := gl_row h hi
  have hd := div_fit (D := (gT S (L.getD i default).T).D) (by omega)
  unfold partJ densG densT
  exact ⟨Int.mul_nonneg hd.2 (by omega), Int.mul_le_mul_of_nonneg_left hr.2.2.2.1 hd.2⟩
theorem clamp_succ (j : Job) (t : Nat) (hD : j.R ≤ j.D) : clampT j (t + 1) = clampT j t + if j.R ≤ t ∧ (t : Int) < j.D then 1 else 0 := by
  unfold clampT
  repeat' split
  all_goals omega
theorem flu_succ (h : jobsLegal S L) {i : Nat} (hi : i < L.length) (t : Nat) : fluJ S (L.getD i default) (t + 1) = fluJ S (L.getD i default) t + if (L.getD i default).R ≤ t ∧ (t : Int) < (L.getD i default).D then partJ S (L.getD i default) else 0 := by
  have hr := gl_row h hi
  unfold fluJ
  rw [clamp_succ _ _ (by omega), Int.mul_add]
  split <;> simp
theorem flu_full (h : jobsLegal S L) {i : Nat} (hi : i < L.length) {t : Nat} (ht : (L.getD i default).D ≤ t) : fluJ S (L.getD i default) t = 27720 * (L.getD i default).E := by
  have hr := gl_row h hi
  have hd := div_fit (D := (gT S (L.getD i default).T).D) (by omega)
  have e : clampT (L.getD i default) t = (gT S (L.getD i default).T).D := by
    unfold clampT
    repeat' split
    all_goals omega
  unfold fluJ partJ
  rw [e, Int.mul_assoc, Int.mul_comm (L.getD i default).E, ← Int.mul_assoc, hd.1]
theorem flu_zero (h : jobsLegal S L) {i : Nat} (hi : i < L.length) {t : Nat} (ht : (t : Int) ≤ (L.getD i default).R) : fluJ S (L.getD i default) t = 0 := by
  unfold fluJ clampT
  rw [if_pos ht, Int.mul_zero]
theorem flu_le (h : jobsLegal S L) {i : Nat} (hi : i < L.length) (t : Nat) : fluJ S (L.getD i default) t ≤ 27720 * (L.getD i default).E := by
  have hr := gl_row h hi
  have hp := part_le h hi
  rcases Nat.lt_or_ge t (L.getD i default).D.toNat with g | g
  · rw [← flu_full h hi (t := (L.getD i default).D.toNat) (by omega)]
    unfold fluJ
    refine Int.mul_le_mul_of_nonneg_left ?_ hp.1
    unfold clampT
    repeat' split
    all_goals omega
  · rw [flu_full h hi (by omega)]; exact Int.le_refl _
theorem flu_tick (h : jobsLegal S L) (d : Int) (t : Nat) : sumI (fun i => if (L.getD i default).D ≤ d ∧ (L.getD i default).R ≤ t ∧ (t : Int) < (L.getD i default).D then partJ S (L.getD i default) else 0) L.length ≤ densSum S := by
  rw [sumJ_task (T := fun i => (L.getD i default).T) (m := S.length) L.length fun i hi => (gl_row h hi).1]
  refine sumI_le fun k hk => ?_
  have hper : ∀ j ∈ L, 0 ≤ perOf S j.T := fun j hj => by
    obtain ⟨i, hi, rfl⟩ := List.getElem_of_mem hj
    have := gl_row h hi
    rw [show L.getD i default = L[i] by simp [List.getD_eq_getElem?_getD, hi]] at this
    unfold perOf; omega
  have hk0 : 0 ≤ densG S k := by
    have ht := gT_ok h.1 (show 0 ≤ (k : Int) by omega) (by omega)
    unfold Task.ok at ht
    have hd := div_fit (D := (gT S k).D) (by omega)
    unfold densG densT
    exact Int.mul_nonneg hd.2 (by omega)
  refine sumJ_one hk0 (fun i hi => ?_) (fun i i' hii hi' => ?_)
  · by_cases e : (L.getD i default).T = (k : Int)
    · rw [if_pos e]
      have := part_le h hi
      rw [e] at this
      split
      · exact .inr this.2
      · exact .inl rfl
    · exact .inl (if_neg e)
  · by_cases e : (L.getD i default).T = (k : Int)
    · by_cases e' : (L.getD i' default).T = (k : Int)
      · have hg := spaced_gap h.2.2.1 hper hii hi' (by rw [e, e'])
        have r1 := gl_row h (show i < L.length by omega)
        have r2 := gl_row h hi'
        unfold perOf at hg
        rw [e] at r1
        rw [e'] at r2
        by_cases g : (L.getD i default).D ≤ d ∧ (L.getD i default).R ≤ t ∧ (t : Int) < (L.getD i default).D
        · right
          rw [if_pos e', if_neg]
          rintro ⟨_, g2, g3⟩
          rw [e'] at hg
          omega
        · left; rw [if_pos e, if_neg g]
      · exact .inr (if_neg e')
    · exact .inl (if_neg e)
def workD (L : List Job) (M t : Nat) (d : Int) : Int := sumI (fun i => if (L.getD i default).D ≤ d then 27720 * gDn L M t i else 0) L.length
def fluD (S : List Task) (L : List Job) (t : Nat) (d : Int) : Int := sumI (fun i => if (L.getD i default).D ≤ d then fluJ S (L.getD i default) t else 0) L.length
theorem fluD_succ (h : jobsLegal S L) (t : Nat) (d : Int) : fluD S L (t + 1) d ≤ fluD S L t d + densSum S := by
  have e : fluD S L (t + 1) d = fluD S L t d + sumI (fun i => if (L.getD i default).D ≤ d ∧ (L.getD i default).R ≤ t ∧ (t : Int) < (L.getD i default).D then partJ S (L.getD i default) else 0) L.length := by
    unfold fluD
    refine sumI_add fun i hi => ?_
    rw [flu_succ h hi]
    by_cases g : (L.getD i default).D ≤ d
    · rw [if_pos g, if_pos g]
      by_cases g2 : (L.getD i default).R ≤ t ∧ (t : Int) < (L.getD i default).D
      · rw [if_pos g2, if_pos ⟨g, g2⟩]
      · rw [if_neg g2, if_neg fun x => g2 x.2]
    · rw [if_neg g, if_neg g, if_neg fun x => g x.1]; rfl
  have := flu_tick h d t
  omega
theorem count_row {A : Nat → Bool} : ∀ {o : List Nat} {n : Nat}, o.Nodup → (∀ i ∈ o, i < n) → (∀ i ∈ o, A i = true) → (o.length : Int) ≤ sumI (fun i => if A i = true ∧ i ∈ o then 1 else 0) n
  | [], n, _, _, _ => by
    rw [sumI_zero fun i _ => if_neg fun g => by simp at g]; exact Int.le_refl _
  | a :: o, n, hn, hl, hA => by
    have hn2 := List.nodup_cons.1 hn
    have ih := count_row (A := A) (o := o) (n := n) hn2.2 (fun i hi => hl i (List.mem_cons_of_mem _ hi)) (fun i hi => hA i (List.mem_cons_of_mem _ hi))
    have e : sumI (fun i => if A i = true ∧ i ∈ a :: o then (1 : Int) else 0) n = sumI (fun i => if A i = true ∧ i ∈ o then (1 : Int) else 0) n + if a < n then 1 else 0 := by
      refine sumI_one fun i hi => ?_
      by_cases e : i = a
      · subst e
        rw [if_pos ⟨hA i (List.mem_cons_self ..), List.mem_cons_self ..⟩, if_neg fun g => hn2.1 g.2, if_pos rfl]; rfl
      · rw [if_neg e, Int.add_zero]
        by_cases g : A i = true ∧ i ∈ o
        · rw [if_pos g, if_pos ⟨g.1, List.mem_cons_of_mem _ g.2⟩]
        · rw [if_neg g, if_neg]
          rintro ⟨g1, g2⟩
          rcases List.mem_cons.1 g2 with h | h
          · exact e h
          · exact g ⟨g1, h⟩
    rw [e, if_pos (hl a (List.mem_cons_self ..)), List.length_cons]
    omega
theorem work_succ (t : Nat) (d : Int) : workD L M (t + 1) d = workD L M t d + 27720 * sumI (fun i => if decide ((L.getD i default).D ≤ d) = true ∧ i ∈ gRow L M t then 1 else 0) L.length := by
  rw [show 27720 * sumI (fun i => if decide ((L.getD i default).D ≤ d) = true ∧ i ∈ gRow L M t then (1 : Int) else 0) L.length = sumI (fun i => (if decide ((L.getD i default).D ≤ d) = true ∧ i ∈ gRow L M t then (1 : Int) else 0) * 27720) L.length by rw [sumI_mul, Int.mul_comm]]
  unfold workD
  refine sumI_add fun i hi => ?_
  rw [gDn_succ]
  by_cases g : (L.getD i default).D ≤ d
  · rw [if_pos g, if_pos g]
    by_cases g2 : i ∈ gRow L M t
    · rw [if_pos g2, if_pos ⟨by simpa using g, g2⟩]; omega
    · rw [if_neg g2, if_neg fun x => g2 x.2]; omega
  · rw [if_neg g, if_neg g, if_neg fun x => g (by simpa using x.1)]; omega
theorem work_tick (hM : 1 ≤ M) {a t : Nat} (ha : a < L.length) {d : Int} (hd : (L.getD a default).D ≤ d) (hr : (L.getD a default).R ≤ t) (hn : gDn L M t a < (L.getD a default).E) :
    (a ∈ gRow L M t → workD L M t d + 27720 ≤ workD L M (t + 1) d) ∧ (a ∉ gRow L M t → workD L M t d + 27720 * M ≤ workD L M (t + 1) d) := by
  have hs := gRow_inv (L := L) (m := M) t
  rw [work_succ]
  refine ⟨fun h => ?_, fun h => ?_⟩
  · have := count_row (A := fun i => decide ((L.getD i default).D ≤ d)) (o := [a]) (n := L.length) (by simp) (by simpa using ha) (by simpa using hd)
    have h2 : sumI (fun i => if decide ((L.getD i default).D ≤ d) = true ∧ i ∈ [a] then (1 : Int) else 0) L.length ≤ sumI (fun i => if decide ((L.getD i default).D ≤ d) = true ∧ i ∈ gRow L M t then (1 : Int) else 0) L.length := sumI_le fun i hi => by
      by_cases g : decide ((L.getD i default).D ≤ d) = true ∧ i ∈ [a]
      · have : i = a := by simpa using g.2
        subst this
        rw [if_pos g, if_pos ⟨g.1, h⟩]; exact Int.le_refl _
      · rw [if_neg g]; split <;> omega
    simp only [List.length_cons, List.length_nil] at this
    omega
  · obtain ⟨h1, h2⟩ := hs.full a ha (decide_eq_true ⟨hr, hn⟩) h
    have := count_row (A := fun i => decide ((L.getD i default).D ≤ d)) (o := gRow L M t) (n := L.length) hs.nd hs.lt (fun i hi => by
      have := h2 i hi
      simp only [decide_eq_true_eq]; omega)
    omega
theorem work_from (hM : 1 ≤ M) {a : Nat} (ha : a < L.length) {d : Int} (hd : (L.getD a default).D ≤ d) {t0 : Nat} (hr : (L.getD a default).R ≤ t0) (h0 : gDn L M t0 a = 0) (hE : ∀ j ∈ L, 1 ≤ j.E) : ∀ s : Nat, gDn L M (t0 + s) a < (L.getD a default).E →
    workD L M t0 d + 27720 * (M * s) ≤ workD L M (t0 + s) d + (M - 1) * (27720 * gDn L M (t0 + s) a)
  | 0, _ => by rw [Nat.add_zero, h0]; simp
  | s + 1, hn => by
    have hs := gDn_succ (L := L) (m := M) (t0 + s) a
    rw [← Nat.add_assoc] at hn ⊢
    have hn' : gDn L M (t0 + s) a < (L.getD a default).E := by split at hs <;> omega
    have ih := work_from hM ha hd hr h0 hE s hn'
    obtain ⟨w1, w2⟩ := work_tick (M := M) hM ha hd (t := t0 + s) (by omega) hn'
    have e1 : (M : Int) * ((s + 1 : Nat) : Int) = M * s + M := by rw [Int.natCast_add, Int.mul_add]; simp
    rw [e1]
    by_cases g : a ∈ gRow L M (t0 + s)
    · rw [if_pos g] at hs
      have := w1 g
      rw [hs]
      have e2 : ((M : Int) - 1) * (27720 * (gDn L M (t0 + s) a + 1)) = (M - 1) * (27720 * gDn L M (t0 + s) a) + 27720 * M - 27720 := by
        rw [Int.mul_add 27720, Int.mul_add]; omega
      rw [e2]; omega
    · rw [if_neg g, Int.add_zero] at hs
      have := w2 g
      rw [hs]; omega
theorem fluD_from (h : jobsLegal S L) (t0 : Nat) (d : Int) : ∀ s : Nat, fluD S L (t0 + s) d ≤ fluD S L t0 d + densSum S * s
  | 0 => by simp
  | s + 1 => by
    have ih := fluD_from h t0 d s
    have h1 := fluD_succ h (t0 + s) d
    have e1 : densSum S * ((s + 1 : Nat) : Int) = densSum S * s + densSum S := by rw [Int.natCast_add, Int.mul_add]; simp
    rw [← Nat.add_assoc, e1]; omega
theorem work_fluid (h : jobsLegal S L) (hM : 1 ≤ M) (hk : densOk S M) (d : Int) : ∀ n t : Nat, t ≤ n → fluD S L t d ≤ workD L M t d := by
  have hE : ∀ j ∈ L, 1 ≤ j.E := fun _ hj => (h.2.1.mem hj).2.2.1
  intro n
  induction n with
  | zero =>
    intro t ht
    obtain rfl : t = 0 := by omega
    refine sumI_le fun i hi => ?_
    split
    · rw [flu_zero h hi (by have := (gl_row h hi).2.1; omega), gDn_zero hi]; exact Int.le_refl _
    · exact Int.le_refl _
  | succ n ih =>
    intro t ht
    rcases Nat.lt_or_ge t (n + 1) with g | g
    · exact ih t (by omega)
    refine Classical.byContradiction fun hlt => ?_
    -- a job that lags
    have hex : ∃ a, a < L.length ∧ (L.getD a default).D ≤ d ∧ 27720 * gDn L M t a < fluJ S (L.getD a default) t := by
      refine Classical.byContradiction fun hno => hlt (sumI_le fun i hi => ?_)
      split
      · rename_i g
        refine Int.not_lt.1 fun hl => hno ⟨i, hi, g, hl⟩
      · exact Int.le_refl _
    obtain ⟨a, ha, had, hal⟩ := hex
    have hra := gl_row h ha
    have hpa := part_le h ha
    have hdn := gInv (m := M) hE ha t
    have hRt : (L.getD a default).R < t := by
      refine Int.not_le.1 fun hle => ?_
      rw [flu_zero h ha hle] at hal
      have := hdn.pos; omega
    obtain ⟨t0, et0⟩ := Int.eq_ofNat_of_zero_le hra.2.1
    have hnE : gDn L M t a < (L.getD a default).E := by
      have := flu_le h ha t; omega
    obtain ⟨s, rfl⟩ : ∃ s, t = t0 + s := ⟨t - t0, by omega⟩
    have h0 : gDn L M t0 a = 0 := gDn_rel hE ha (by omega)
    have w := work_from hM ha had (t0 := t0) (by omega) h0 hE s hnE
    have f := fluD_from h t0 d s
    have i0 := ih t0 (by omega)
    -- the lagging job has had less than the greatest density
    have hmx := densMax_le S (n := S.length) (k := (L.getD a default).T.toNat) (by omega)
    rw [show (((L.getD a default).T.toNat : Nat) : Int) = (L.getD a default).T by omega] at hmx
    have hfa : fluJ S (L.getD a default) (t0 + s) ≤ densMax S S.length * s := by
      unfold fluJ
      have hc : clampT (L.getD a default) (t0 + s) ≤ s ∧ 0 ≤ clampT (L.getD a default) (t0 + s) := by
        unfold clampT
        repeat' split
        all_goals omega
      exact Int.le_trans (Int.mul_le_mul_of_nonneg_left hc.1 hpa.1) (Int.mul_le_mul_of_nonneg_right (by omega) (by omega))
    have hq : densSum S * s ≤ (M * 27720 - (M - 1) * densMax S S.length) * s := Int.mul_le_mul_of_nonneg_right hk (by omega)
    rw [Int.sub_mul, Int.mul_assoc (M : Int), Int.mul_assoc ((M : Int) - 1), Int.mul_comm 27720 (s : Int), ← Int.mul_assoc (M : Int) (s : Int)] at hq
    have hy : ((M : Int) - 1) * (27720 * gDn L M (t0 + s) a) ≤ (M - 1) * (densMax S S.length * s) := Int.mul_le_mul_of_nonneg_left (by omega) (by omega)
    apply hlt
    omega
theorem global_safe (h : jobsLegal S L) (hM : 1 ≤ M) (hk : densOk S M) : missedL L (gFin L M) = [] := by
  have hE : ∀ j ∈ L, 1 ≤ j.E := fun _ hj => (h.2.1.mem hj).2.2.1
  unfold missedL
  rw [List.map_eq_nil_iff, List.filter_eq_nil_iff]
  intro i hi
  rw [List.mem_range] at hi
  have hr := gl_row h hi
  obtain ⟨d, ed⟩ := Int.eq_ofNat_of_zero_le (show 0 ≤ (L.getD i default).D by omega)
  rw [gLate hE hi ed fun _ => ?_]
  · decide
  have hw := work_fluid h hM hk d d d (Nat.le_refl _)
  refine Classical.byContradiction fun hne => ?_
  have hlt : gDn L M d i < (L.getD i default).E := by
    have := (gInv (m := M) hE hi d).le; omega
  refine absurd hw (Int.not_le.2 ?_)
  refine sumI_lt (fun k hk2 => ?_) hi ?_
  · split
    · rename_i g
      rw [flu_full h hk2 g]
      have := (gInv (m := M) hE hk2 d).le
      omega
    · exact Int.le_refl _
  · have g : (L.getD i default).D ≤ d := by omega
    rw [if_pos g, if_pos g, flu_full h hi g]
    omega
theorem densMax_bd (hS : setOk S) : ∀ n, n ≤ S.length → densMax S n ≤ 27720
  | 0, _ => by simp [densMax]
  | n + 1, hn => by
    have ih := densMax_bd hS n (by omega)
    have ht := gT_ok hS (show 0 ≤ (n : Int) by omega) (by omega)
    unfold Task.ok at ht
    have hd := div_fit (D := (gT S n).D) (by omega)
    have : densG S n ≤ 27720 := by
      have hq := Int.mul_le_mul_of_nonneg_left ht.2.2.1 hd.2
      rw [hd.1] at hq
      exact hq
    simp only [densMax]
    split <;> omega
theorem dens_more (hS : setOk S) {m : Int} (h : densOk S m) : densOk S (m + 1) := by
  have hb := densMax_bd hS S.length (Nat.le_refl _)
  unfold densOk at h ⊢
  have e1 : (m + 1) * 27720 = m * 27720 + 27720 := by rw [Int.add_mul]; simp
  have e2 : (m + 1 - 1) * densMax S S.length = (m - 1) * densMax S S.length + densMax S S.length := by
    rw [show m + 1 - 1 = (m - 1) + 1 by omega, Int.add_mul]; simp
  rw [e1, e2]; omega
end
end Go.Ds
