import Derived.Test.YtfngcejaphhmmaaM38
import Derived.Test.YtfngcejaphhmmaaM22
import Derived.Test.YtfngcejaphhmmaaM16
namespace Go.Ds
def sumJ (f : Job → Int) (L : List Job) : Int := sumI (fun i => f (L.getD i default)) L.length
theorem sumJ_snoc (f : Job → Int) (L : List Job) (x : Job) : sumJ f (L ++ [x]) = sumJ f L + f x := by
  unfold sumJ
  rw [List.length_append, List.length_cons, List.length_nil]
  show sumI _ L.length + f ((L ++ [x]).getD L.length default) = _
  congr 1
  · refine sumI_congr fun i hi => ?_
    simp only [List.getD_eq_getElem?_getD]
    rw [List.getElem?_append_left hi]
  · simp only [List.getD_eq_getElem?_getD]
    rw [List.getElem?_append_right (Nat.le_refl _)]; simp
def arrT (S : List Task) (t : Nat) (m : Nat) : Int := sumI (fun k => if (t : Int) % (gT S k).P = 0 then (gT S k).C else 0) m
def relJ (t : Nat) (j : Job) : Int := if j.R ≤ t then j.E else 0
theorem sumJ_in {S : List Task} {t now : Nat} {M : List Job} (hS : setOk S) (hn : now < 108 ∨ t < now) : ∀ k, k ≤ S.length → (syncIn S 120 now M k).length < 60 → sumJ (relJ t) (syncIn S 120 now M k) = sumJ (relJ t) M + if now ≤ t then arrT S now k else 0
  | 0, _, _ => by simp only [syncIn, arrT, sumI]; split <;> omega
  | k + 1, hk, h => by
    have hx := gT_okN hS (show k < S.length by omega)
    unfold Task.ok at hx
    have e0 : arrT S now (k + 1) = arrT S now k + if (now : Int) % (gT S k).P = 0 then (gT S k).C else 0 := rfl
    simp only [syncIn] at h ⊢
    by_cases hc : syncOk S 120 now k ∧ (syncIn S 120 now M k).length < 60
    · rw [if_pos hc] at h ⊢
      have ih := sumJ_in (t := t) hS hn k (by omega) hc.2
      rw [sumJ_snoc, ih, e0, if_pos hc.1.1]
      have e1 : relJ t (syncJob S now k) = if now ≤ t then (gT S k).C else 0 := by
        unfold relJ syncJob
        simp only
        by_cases h1 : now ≤ t
        · rw [if_pos (by omega), if_pos h1]
        · rw [if_neg (by omega), if_neg h1]
      rw [e1]
      split <;> omega
    · rw [if_neg hc] at h ⊢
      have ih := sumJ_in (t := t) hS hn k (by omega) h
      rw [ih, e0]
      by_cases h1 : now ≤ t
      · rw [if_pos h1, if_pos h1]
        have h2 : ¬ syncOk S 120 now k := fun g => hc ⟨g, h⟩
        unfold syncOk at h2
        rw [if_neg (fun g => h2 ⟨g, by omega⟩)]; omega
      · rw [if_neg h1, if_neg h1]
def arrS (S : List Task) (t : Nat) : Nat → Int
  | 0 => 0
  | n + 1 => arrS S t n + if n ≤ t then arrT S n S.length else 0
theorem sumJ_sync {S : List Task} (hS : setOk S) {t : Nat} (ht : t < 108) : ∀ n, (sync S 120 n).length < 60 → sumJ (relJ t) (sync S 120 n) = arrS S t n
  | 0, _ => rfl
  | n + 1, h => by
    simp only [sync] at h ⊢
    have hle := syncIn_le S 120 n (sync S 120 n) S.length
    have ih := sumJ_sync hS ht n (by omega)
    rw [sumJ_in hS (by omega) S.length (Nat.le_refl _) h, ih]
    rfl
theorem arrS_more (S : List Task) (t : Nat) : ∀ m : Nat, arrS S t (t + 1 + m) = arrS S t (t + 1)
  | 0 => rfl
  | m + 1 => by
    have e : arrS S t (t + 1 + m + 1) = arrS S t (t + 1 + m) + if t + 1 + m ≤ t then arrT S (t + 1 + m) S.length else 0 := rfl
    rw [← Nat.add_assoc, e, if_neg (by omega), Int.add_zero, arrS_more S t m]
theorem arrS_low (S : List Task) (t : Nat) : ∀ n, n ≤ t + 1 → arrS S (t + 1) n = arrS S t n
  | 0, _ => rfl
  | n + 1, h => by
    have e1 : arrS S (t + 1) (n + 1) = arrS S (t + 1) n + if n ≤ t + 1 then arrT S n S.length else 0 := rfl
    have e2 : arrS S t (n + 1) = arrS S t n + if n ≤ t then arrT S n S.length else 0 := rfl
    rw [e1, e2, arrS_low S t n (by omega), if_pos (by omega), if_pos (by omega)]
def relS (S : List Task) (t : Nat) : Int := arrS S t (t + 1)
theorem relS_zero (S : List Task) : relS S 0 = arrT S 0 S.length := by
  have e : relS S 0 = 0 + if 0 ≤ 0 then arrT S 0 S.length else 0 := rfl
  rw [e, if_pos (Nat.le_refl _), Int.zero_add]
theorem relS_succ (S : List Task) (t : Nat) : relS S (t + 1) = relS S t + arrT S (t + 1) S.length := by
  unfold relS
  have e1 : arrS S (t + 1) (t + 1 + 1) = arrS S (t + 1) (t + 1) + if t + 1 ≤ t + 1 then arrT S (t + 1) S.length else 0 := rfl
  rw [e1, if_pos (Nat.le_refl _), arrS_low S t (t + 1) (Nat.le_refl _)]
theorem rel_sync {S : List Task} (hS : setOk S) {t : Nat} (ht : t < 108) (h : (sync S 120 120).length < 60) : sumI (relW (sync S 120 120) t) (sync S 120 120).length = relS S t := by
  have e := sumJ_sync hS ht 120 h
  rw [show 120 = t + 1 + (119 - t) by omega, arrS_more] at e
  rw [show t + 1 + (119 - t) = 120 by omega] at e
  exact e
def lrSum (S : List Task) (t : Nat) : Int := sumI (fun k => gI (tabLr S t) k) S.length
theorem lr_idle {S : List Task} (hS : setOk S) (t : Nat) : tabAt S t = -1 ↔ lrSum S t = 0 := by
  constructor
  · intro h
    refine sumI_zero fun k hk => ?_
    have hb := lr_bound hS hk t
    rcases tab_pick (S := S) t with ⟨_, h1⟩ | ⟨b, hb2, e2, _⟩
    · have := h1 k hk; omega
    · omega
  · intro h
    rcases tab_pick (S := S) t with ⟨e, _⟩ | ⟨b, hb2, e2, h2, _⟩
    · exact e
    · have := sumI_lt (f := fun _ => 0) (g := fun k => gI (tabLr S t) k) (n := S.length) (fun i hi => (lr_bound hS hi t).1) hb2 h2
      rw [sumI_zero (fun _ _ => rfl)] at this
      unfold lrSum at h
      omega
theorem lf_release {S : List Task} (hS : setOk S) (hf : ∀ t : Nat, dbf S t ≤ t) {t k : Nat} (hk : k < S.length) (hd : ((t + 1 : Nat) : Int) % (gT S k).P = 0) : gI (tabLf S (t + 1)) k = 0 := by
  have hx := gT_okN hS hk
  unfold Task.ok at hx
  obtain ⟨P, hP⟩ := Int.eq_ofNat_of_zero_le (show 0 ≤ (gT S k).P by omega)
  have hle : P ≤ t + 1 := by
    have := Int.le_of_dvd (by omega) (Int.dvd_of_emod_eq_zero hd)
    omega
  have hr : ((t + 1 - P : Nat) : Int) % (gT S k).P = 0 := by
    rw [show ((t + 1 - P : Nat) : Int) = ((t + 1 : Nat) : Int) - (gT S k).P by omega, Int.sub_emod_right, hd]
  have h1 := win_lf hS hk hr P (by omega) (by omega)
  have h2 := win_cnt hS hf hk hr (m := P) (by omega) (by omega)
  rw [show t + 1 - P + P = t + 1 by omega] at h1
  omega
theorem lrSum_succ {S : List Task} (hS : setOk S) (hf : ∀ t : Nat, dbf S t ≤ t) (t : Nat) : lrSum S (t + 1) = lrSum S t + arrT S (t + 1) S.length - if tabAt S t = -1 then 0 else 1 := by
  have key : ∀ m, m ≤ S.length → sumI (fun k => gI (tabLr S (t + 1)) k) m = sumI (fun k => gI (tabLr S t) k) m + arrT S (t + 1) m - sumI (fun k => if tabAt S t = (k : Int) then 1 else 0) m := by
    intro m
    induction m with
    | zero => intro _; rfl
    | succ m ih =>
      intro hm
      have := ih (by omega)
      have e0 : arrT S (t + 1) (m + 1) = arrT S (t + 1) m + if ((t + 1 : Nat) : Int) % (gT S m).P = 0 then (gT S m).C else 0 := rfl
      simp only [sumI]
      rw [this, e0, lr_get (show m < S.length by omega)]
      have hs := lf_succ (S := S) (t := t) (show m < S.length by omega)
      by_cases hd : ((t + 1 : Nat) : Int) % (gT S m).P = 0
      · have h0 := lf_release hS hf (show m < S.length by omega) hd
        rw [if_pos hd, if_pos hd]; omega
      · rw [if_neg hd, if_neg hd]; omega
  have e1 := key S.length (Nat.le_refl _)
  unfold lrSum
  rw [e1]
  congr 1
  rcases tab_pick (S := S) t with ⟨e, _⟩ | ⟨b, hb2, e2, _⟩
  · rw [if_pos e]
    exact sumI_zero fun k _ => if_neg (by omega)
  · rw [if_neg (by omega), sumI_atT S.length (by omega), if_pos (by omega)]
theorem lrSum_zero {S : List Task} : lrSum S 0 = arrT S 0 S.length := by
  refine sumI_congr fun k hk => ?_
  rw [lr_get hk, if_pos (by simp), if_pos (by simp)]
theorem table_idle {S : List Task} (hS : setOk S) (hf : ∀ t : Nat, dbf S t ≤ t) (h : (sync S 120 120).length < 60) : ∀ t : Nat, t < 108 → (tabAt S t = -1 ↔ edfPick (sync S 120 120) t (simU (sync S 120 120) (edfPick (sync S 120 120)) t).done = -1) := by
  have hE : ∀ j ∈ sync S 120 120, 1 ≤ j.E := by
    intro j hj
    obtain ⟨_, ⟨_, hk⟩, _⟩ := sync_legal hS (Int.le_refl 120) 120
    obtain ⟨i, hi, rfl⟩ := List.getElem_of_mem hj
    exact (hk i hi).2.2.1.1
  have hfe := edf_fair (sync S 120 120)
  have hbe := edf_busy (sync S 120 120)
  have key : ∀ t : Nat, t < 108 → lrSum S t = relS S t - doneW (sync S 120 120) (simU (sync S 120 120) (edfPick (sync S 120 120)) t).done := by
    intro t
    induction t with
    | zero =>
      intro _
      rw [lrSum_zero, relS_zero]
      have : doneW (sync S 120 120) (simU (sync S 120 120) (edfPick (sync S 120 120)) 0).done = 0 := sumI_zero fun i hi => done0 (L := sync S 120 120) (pick := edfPick (sync S 120 120)) hi
      omega
    | succ t ih =>
      intro ht
      have ih := ih (by omega)
      have hi := idle_iff hfe hbe hE t
      rw [rel_sync hS (by omega) h] at hi
      have h1 := lr_idle hS t
      rw [lrSum_succ hS hf, relS_succ, doneW_step hfe]
      by_cases hp : tabAt S t = -1
      · have := h1.1 hp
        rw [if_pos hp, if_pos (hi.2 (by omega))]; omega
      · rw [if_neg hp, if_neg (fun g => hp (h1.2 (by have := hi.1 g; omega)))]; omega
  intro t ht
  have hi := idle_iff hfe hbe hE t
  rw [rel_sync hS ht h] at hi
  rw [lr_idle hS t, hi, key t ht]
  omega
end Go.Ds
