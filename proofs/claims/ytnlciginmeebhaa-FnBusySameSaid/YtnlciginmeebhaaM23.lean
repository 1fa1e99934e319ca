/- The plain law: shared resources: a job is blocked by at most one section; a set that passes the test misses no deadline. Definitions in plain Lean; no program in sight. -/
import Derived.Test.YtnlciginmeebhaaM22
import Derived.Test.YtnlciginmeebhaaM15
namespace Go.Ds

/-- The longest section that can block an interval of length t. -/
def blkN (S : List Task) (X : List Sec) (t : Int) : Nat → Int
  | 0 => 0
  | k + 1 => if 0 < (gX X k).Ln ∧ t < (gT S k).D ∧ ceilR S X (gX X k).Rs ≤ t then (if blkN S X t k < (gX X k).Ln then (gX X k).Ln else blkN S X t k) else blkN S X t k
def blk (S : List Task) (X : List Sec) (t : Int) : Int := blkN S X t S.length
theorem blkN_pos (S : List Task) (X : List Sec) (t : Int) : ∀ k, 0 ≤ blkN S X t k
  | 0 => Int.le_refl _
  | k + 1 => by
    have := blkN_pos S X t k
    simp only [blkN]
    split
    · split <;> omega
    · exact this
theorem blkN_ge {S : List Task} {X : List Sec} {t : Int} : ∀ {k i : Nat}, i < k → 0 < (gX X i).Ln → t < (gT S i).D → ceilR S X (gX X i).Rs ≤ t → (gX X i).Ln ≤ blkN S X t k
  | 0, i, h, _, _, _ => absurd h (by omega)
  | k + 1, i, h, h1, h2, h3 => by
    simp only [blkN]
    rcases Nat.lt_or_eq_of_le (Nat.le_of_lt_succ h) with h4 | rfl
    · have := blkN_ge (S := S) h4 h1 h2 h3
      split
      · split <;> omega
      · exact this
    · rw [if_pos ⟨h1, h2, h3⟩]
      split <;> omega
theorem blkN_le {S : List Task} {X : List Sec} {t : Int} {m : Int} (hm : 0 ≤ m) : ∀ {k : Nat}, (∀ i, i < k → (gX X i).Ln ≤ m) → blkN S X t k ≤ m
  | 0, _ => hm
  | k + 1, h => by
    have h1 := blkN_le (S := S) (t := t) (k := k) hm fun i hi => h i (by omega)
    have h2 := h k (by omega)
    simp only [blkN]
    split
    · split <;> omega
    · exact h1
theorem blkN_zero {S : List Task} {X : List Sec} {t : Int} : ∀ {k : Nat}, (∀ i, i < k → (gT S i).D ≤ t) → blkN S X t k = 0
  | 0, _ => rfl
  | k + 1, h => by
    have h2 := h k (by omega)
    simp only [blkN]
    rw [if_neg (by omega), blkN_zero fun i hi => h i (by omega)]

theorem sysN_at {S : List Task} {X : List Sec} {L : List Job} {h : Nat → Bool} : ∀ {k : Nat}, sysN S X L h k < 13 → ∃ i, i < k ∧ h i = true ∧ sysN S X L h k = ceilR S X (jX X L i).Rs
  | 0, h => absurd h (by simp [sysN])
  | k + 1, h1 => by
    simp only [sysN] at h1 ⊢
    by_cases h2 : h k = true
    · rw [if_pos h2] at h1 ⊢
      by_cases h3 : ceilR S X (jX X L k).Rs < sysN S X L h k
      · rw [if_pos h3]; exact ⟨k, by omega, h2, rfl⟩
      · rw [if_neg h3] at h1 ⊢
        obtain ⟨i, h4, h5, h6⟩ := sysN_at h1
        exact ⟨i, by omega, h5, h6⟩
    · rw [if_neg h2] at h1 ⊢
      obtain ⟨i, h4, h5, h6⟩ := sysN_at h1
      exact ⟨i, by omega, h5, h6⟩

/-- What is asked of the jobs. -/
structure SrpOk (S : List Task) (X : List Sec) (L : List Job) : Prop where
  E : ∀ j ∈ L, 1 ≤ j.E
  R : ∀ j ∈ L, 0 ≤ j.R
  D : ∀ i, i < L.length → (L.getD i default).D = (L.getD i default).R + (gT S (L.getD i default).T).D
  D13 : ∀ i, i < L.length → 0 < (gT S (L.getD i default).T).D ∧ (gT S (L.getD i default).T).D < 13
  St : ∀ i, i < L.length → 0 ≤ (jX X L i).St

theorem better_of {L : List Job} {a b : Nat} (h : ¬ better L a b) (hne : a ≠ b) : better L b a := by
  unfold better at *
  omega

section
variable {S : List Task} {X : List Sec} {L : List Job} (ok : SrpOk S X L)
abbrev dn (S : List Task) (X : List Sec) (L : List Job) (t : Nat) (i : Nat) : Int := gI (simU L (srpPick S X L) t).done i
abbrev pk (S : List Task) (X : List Sec) (L : List Job) (t : Nat) : Int := srpPick S X L t (simU L (srpPick S X L) t).done

/-- When a job started, it came first. -/
theorem started {k : Nat} (hk : k < L.length) : ∀ {t : Nat}, 0 < dn S X L t k → ∃ s, s < t ∧ dn S X L s k = 0 ∧ pk S X L s = k
  | 0, h => by rw [show dn S X L 0 k = 0 from gI_rep _ _ _ hk] at h; omega
  | t + 1, h => by
    by_cases h1 : 0 < dn S X L t k
    · obtain ⟨s, h2, h3⟩ := started hk h1
      exact ⟨s, by omega, h3⟩
    · have hp : (0:Int) ≤ dn S X L t k := by
        have := done_mono' (srp_fair S X L) k (show 0 ≤ t by omega)
        rw [show doneAt L (srpPick S X L) 0 k = 0 from gI_rep _ _ _ hk] at this
        exact this
      refine ⟨t, by omega, by omega, ?_⟩
      rcases srp_fair S X L t (simU L (srpPick S X L) t).done with e | ⟨n, e, hn, _⟩
      · have := done_neg (L := L) (pick := srpPick S X L) (k := t) (by omega) k
        unfold doneAt at this
        unfold dn at *
        omega
      · have := done_pos (L := L) (pick := srpPick S X L) (k := t) e hn k
        unfold doneAt at this
        unfold dn at *
        split at this
        · rename_i h2; rw [h2]; exact e
        · omega
theorem start_edf {s k : Nat} (h0 : dn S X L s k = 0) (h : pk S X L s = k) : edfPick L s (simU L (srpPick S X L) s).done = k := by
  unfold pk at h
  unfold dn at h0
  generalize (simU L (srpPick S X L) s).done = done at *
  unfold srpPick at h
  split at h
  · exact h
  · split at h
    · exact h
    · rcases bestF_spec (fun i => readyJ L done s i && startedB done i) (keyD L) L.length with ⟨e, _⟩ | ⟨n, e, hn, hok, _⟩
      · omega
      · obtain rfl : k = n := by omega
        simp only [Bool.and_eq_true, startedB, decide_eq_true_eq] at hok
        omega
theorem start_first {s k i : Nat} (h0 : dn S X L s k = 0) (h : pk S X L s = k) (hi : i < L.length) (hr : readyJ L (simU L (srpPick S X L) s).done s i = true) : ¬ better L i k := by
  have h1 := start_edf h0 h
  unfold edfPick at h1
  rcases bestF_spec (readyJ L (simU L (srpPick S X L) s).done s) (fun i => (L.getD i default).D) L.length with ⟨e, _⟩ | ⟨n, e, hn, hok, g1, g2⟩
  · omega
  · obtain rfl : k = n := by omega
    have := g1 i hi hr
    rintro (h3 | ⟨h3, h4⟩)
    · unfold keyD at h3; omega
    · have := g2 i h4 hr
      unfold keyD at h3; omega
theorem rdy {t i : Nat} : readyJ L (simU L (srpPick S X L) t).done t i = true ↔ (L.getD i default).R ≤ t ∧ dn S X L t i < (L.getD i default).E := by
  unfold readyJ; rw [decide_eq_true_eq]
theorem dn_mono {i a b : Nat} (h : a ≤ b) : dn S X L a i ≤ dn S X L b i := done_mono' (srp_fair S X L) i h

include ok in
/-- A tick in which a later job runs: that job is inside a section with a low ceiling. -/
theorem blocker {t n i : Nat} {d : Int} (hi : i < L.length) (hr : readyJ L (simU L (srpPick S X L) t).done t i = true) (hid : keyD L i ≤ d) (hp : pk S X L t = n) (hn : n < L.length) (hnd : d < keyD L n) :
    (0 < dn S X L t n ∧ dn S X L t n < (L.getD n default).E ∧ inSec (jX X L n) (dn S X L t n)) ∧ ∃ e, e < L.length ∧ (L.getD e default).R ≤ t ∧ dn S X L t e = 0 ∧ keyD L e ≤ d ∧ ceilR S X (jX X L n).Rs ≤ (gT S (L.getD e default).T).D ∧ readyJ L (simU L (srpPick S X L) t).done t e = true := by
  have hf := srp_fair S X L
  have hreach := reach hf ok.E t
  have h1 : ∃ e : Nat, e < L.length ∧ edfPick L t (simU L (srpPick S X L) t).done = e ∧ readyJ L (simU L (srpPick S X L) t).done t e = true ∧ keyD L e ≤ keyD L i := by
    rcases bestF_spec (readyJ L (simU L (srpPick S X L) t).done t) (fun i => (L.getD i default).D) L.length with ⟨_, h⟩ | ⟨k, e, hk, hok, h, _⟩
    · rw [h i hi] at hr; cases hr
    · exact ⟨k, hk, e, hok, h i hi hr⟩
  obtain ⟨e, he, hee, her, hek⟩ := h1
  have hne : e ≠ n := fun h => by subst h; omega
  have hp0 := hp
  have unf : ∀ (now : Nat) (done : List Int), srpPick S X L now done = if edfPick L now done < 0 ∨ 0 < gI done (edfPick L now done) then edfPick L now done
    else if tD S L (edfPick L now done) < sysN S X L (heldI X L done now) L.length then edfPick L now done
    else bestF L.length (fun i => readyJ L done now i && startedB done i) (keyD L) := fun _ _ => rfl
  unfold pk at hp
  rw [unf t (simU L (srpPick S X L) t).done, hee] at hp
  have hreach_e := hreach e he
  by_cases h2 : (e : Int) < 0 ∨ 0 < gI (simU L (srpPick S X L) t).done (e : Int)
  · rw [if_pos h2] at hp; omega
  rw [if_neg h2] at hp
  by_cases h3 : tD S L e < sysN S X L (heldI X L (simU L (srpPick S X L) t).done t) L.length
  · rw [if_pos h3] at hp; omega
  rw [if_neg h3] at hp
  have he0 : dn S X L t e = 0 := by unfold dn; omega
  have hD13 := ok.D13 e he
  have htD : tD S L e = (gT S (L.getD e default).T).D := by unfold tD; rw [Int.toNat_natCast]
  obtain ⟨h, hh, hheld, hceil⟩ := sysN_at (S := S) (X := X) (L := L) (h := heldI X L (simU L (srpPick S X L) t).done t) (k := L.length) (by omega)
  unfold heldI at hheld
  rw [Bool.and_eq_true, decide_eq_true_eq] at hheld
  have hSt := ok.St h hh
  have hin := hheld.2
  have hstart : 0 < dn S X L t h := by unfold inSec at hin; unfold dn; omega
  have hns : readyJ L (simU L (srpPick S X L) t).done t n = true ∧ 0 < dn S X L t n := by
    rcases bestF_spec (fun i => readyJ L (simU L (srpPick S X L) t).done t i && startedB (simU L (srpPick S X L) t).done i) (keyD L) L.length with ⟨e, _⟩ | ⟨m, e, hm, hok, _⟩
    · omega
    · obtain rfl : n = m := by omega
      simpa only [Bool.and_eq_true, startedB, decide_eq_true_eq] using hok
  have hnr := rdy.1 hns.1
  have hhr := rdy.1 hheld.1
  obtain ⟨s, hs1, hs2, hs3⟩ := started hn hns.2
  have hsr : (L.getD n default).R ≤ s := by
    rcases hf s (simU L (srpPick S X L) s).done with e1 | ⟨m, e1, hm, hrm⟩
    · unfold pk at hs3; omega
    · obtain rfl : n = m := by unfold pk at hs3; omega
      unfold readyJ at hrm
      rw [decide_eq_true_eq] at hrm
      exact hrm.1
  have hnh : n = h := by
    apply Classical.byContradiction
    intro hnh
    have hb : better L n h := better_of (pick_first hp0 hh hheld.1 hstart) (fun h' => hnh h'.symm)
    have hmx := mx_inv (S := S) (X := X) ok.E t h n hh hn hb ⟨hstart, hhr.2⟩ ⟨hns.2, hnr.2⟩ hin
    have htn : tD S L n = (gT S (L.getD n default).T).D := by unfold tD; rw [Int.toNat_natCast]
    have hDn := ok.D n hn
    have hDe := ok.D e he
    unfold keyD at hnd hek hid
    have hrs : readyJ L (simU L (srpPick S X L) s).done s e = true := by
      refine rdy.2 ⟨by omega, ?_⟩
      have := dn_mono (S := S) (X := X) (L := L) (i := e) (show s ≤ t by omega)
      have := (rdy.1 her).2
      omega
    refine start_first hs2 hs3 he hrs (.inl ?_)
    unfold keyD; omega
  subst hnh
  exact ⟨⟨hns.2, hnr.2, hin⟩, e, he, (rdy.1 her).1, he0, by omega, by omega, her⟩

/-- A tick in which a job with a deadline after d runs. -/
def lateT (S : List Task) (X : List Sec) (L : List Job) (d : Int) (t : Nat) : Bool := decide (0 ≤ pk S X L t ∧ d < keyD L (pk S X L t).toNat)

theorem lateT_of {d : Int} {t n : Nat} (h : pk S X L t = n) : lateT S X L d t = decide (d < keyD L n) := by
  unfold lateT
  rw [h, Int.toNat_natCast]
  apply decide_eq_decide.2
  omega
theorem lateT_neg {d : Int} {t : Nat} (h : pk S X L t = -1) : lateT S X L d t = false := by
  unfold lateT
  rw [h, decide_eq_false_iff_not]
  omega

/-- Where a job with a deadline up to d waits all the time, one later job alone runs, inside its section. -/
def OneBlk (S : List Task) (X : List Sec) (L : List Job) (d : Int) (a m : Nat) (k : Nat) : Prop :=
  k < L.length ∧ d < keyD L k ∧ (L.getD k default).R < a ∧ (jX X L k).St < dn S X L a k ∧ dn S X L (a + m) k ≤ (jX X L k).St + (jX X L k).Ln ∧ free (lateT S X L d) a m = dn S X L (a + m) k - dn S X L a k ∧
    (∃ t, a ≤ t ∧ t < a + m ∧ pk S X L t = k) ∧ (∀ t, a ≤ t → t < a + m → ∀ n : Nat, pk S X L t = n → keyD L n ≤ d ∨ n = k) ∧
    ∃ t e, a ≤ t ∧ t < a + m ∧ e < L.length ∧ (L.getD e default).R ≤ t ∧ keyD L e ≤ d ∧ ceilR S X (jX X L k).Rs ≤ (gT S (L.getD e default).T).D ∧ readyJ L (simU L (srpPick S X L) t).done t e = true

include ok in
theorem one_blk {d : Int} {a : Nat} : ∀ m : Nat, (∀ t, a ≤ t → t < a + m → ∃ i, i < L.length ∧ readyJ L (simU L (srpPick S X L) t).done t i = true ∧ keyD L i ≤ d) →
    (free (lateT S X L d) a m = 0 ∧ ∀ t, a ≤ t → t < a + m → ∀ n : Nat, pk S X L t = n → keyD L n ≤ d) ∨ ∃ k, OneBlk S X L d a m k
  | 0, _ => .inl ⟨rfl, fun t h1 h2 => by omega⟩
  | m + 1, h => by
    have ih := one_blk m fun t h1 h2 => h t h1 (by omega)
    obtain ⟨i, hi, hr, hid⟩ := h (a + m) (by omega) (by omega)
    have hf := srp_fair S X L
    have hsame : ∀ k : Nat, k < L.length → (∀ t, a ≤ t → t < a + m → ∀ n : Nat, pk S X L t = n → n ≠ k) → ∀ b, b ≤ m → dn S X L (a + b) k = dn S X L a k := by
      intro k hk hno b
      induction b with
      | zero => intro _; rfl
      | succ b ihb =>
        intro hb
        have hb' := ihb (by omega)
        rw [← Nat.add_assoc]
        rcases hf (a + b) (simU L (srpPick S X L) (a + b)).done with e | ⟨n, e, hn, _⟩
        · have := done_neg (L := L) (pick := srpPick S X L) (k := a + b) (by omega) k
          unfold doneAt at this
          unfold dn at *
          omega
        · have := done_pos (L := L) (pick := srpPick S X L) (k := a + b) e hn k
          rw [if_neg (fun h' => hno (a + b) (by omega) (by omega) n e h'.symm)] at this
          unfold doneAt at this
          unfold dn at *
          omega
    rcases hf (a + m) (simU L (srpPick S X L) (a + m)).done with e | ⟨n, e, hn, hrn⟩
    · -- nobody runs
      have hl := lateT_neg (S := S) (X := X) (L := L) (d := d) (t := a + m) e
      have hstep : ∀ k : Nat, dn S X L (a + (m + 1)) k = dn S X L (a + m) k := fun k => by
        have := done_neg (L := L) (pick := srpPick S X L) (k := a + m) (by omega) k
        unfold doneAt at this
        exact this
      have hfree : free (lateT S X L d) a (m + 1) = free (lateT S X L d) a m := by simp [free, hl]
      rcases ih with ⟨h1, h2⟩ | ⟨k, g1, g2, g3, g4, g5, g6, ⟨t0, g7, g7', g7''⟩, g8, t1, e1, g9, g10, g11⟩
      · refine .inl ⟨by rw [hfree]; exact h1, fun t ht1 ht2 n' hn' => ?_⟩
        by_cases ht : t = a + m
        · subst ht; unfold pk at hn'; omega
        · exact h2 t ht1 (by omega) n' hn'
      · refine .inr ⟨k, g1, g2, g3, g4, by rw [hstep]; exact g5, by rw [hfree, hstep]; exact g6, ⟨t0, g7, by omega, g7''⟩, fun t ht1 ht2 n' hn' => ?_, t1, e1, g9, by omega, g11⟩
        by_cases ht : t = a + m
        · subst ht; unfold pk at hn'; omega
        · exact g8 t ht1 (by omega) n' hn'
    · have hl := lateT_of (S := S) (X := X) (L := L) (d := d) (t := a + m) (n := n) e
      have hstep : ∀ k : Nat, dn S X L (a + (m + 1)) k = dn S X L (a + m) k + if k = n then 1 else 0 := fun k => by
        have := done_pos (L := L) (pick := srpPick S X L) (k := a + m) e hn k
        unfold doneAt at this
        exact this
      by_cases hnd : d < keyD L n
      · -- a later job runs
        rw [decide_eq_true hnd] at hl
        have hfree : free (lateT S X L d) a (m + 1) = free (lateT S X L d) a m + 1 := by simp [free, hl]
        obtain ⟨⟨b1, b2, b3⟩, e', he', b4, b5, b6, b7, b8⟩ := blocker ok hi hr hid e hn hnd
        obtain ⟨s, s1, s2, s3⟩ := started hn b1
        have hsR : (L.getD n default).R ≤ s := by
          rcases hf s (simU L (srpPick S X L) s).done with e1 | ⟨m', e1, hm, hrm⟩
          · unfold pk at s3; omega
          · obtain rfl : n = m' := by unfold pk at s3; omega
            unfold readyJ at hrm
            rw [decide_eq_true_eq] at hrm
            exact hrm.1
        have hsa : s < a := by
          apply Classical.byContradiction
          intro hsa
          obtain ⟨i2, hi2, hr2, hid2⟩ := h s (by omega) (by omega)
          exact start_first s2 s3 hi2 hr2 (.inl (by omega))
        unfold inSec at b3
        rcases ih with ⟨h1, h2⟩ | ⟨k, g1, g2, g3, g4, g5, g6, ⟨t0, g7, g7', g7''⟩, g8, t1, e1, g9, g10, g11⟩
        · have hs := hsame n hn (fun t ht1 ht2 n' hn' hx => by have := h2 t ht1 ht2 n' hn'; rw [hx] at this; omega) m (Nat.le_refl _)
          have hst := hstep n
          rw [if_pos rfl] at hst
          refine .inr ⟨n, hn, hnd, by omega, by omega, by omega, by omega, ⟨a + m, by omega, by omega, e⟩, fun t ht1 ht2 n' hn' => ?_, a + m, e', by omega, by omega, he', b4, b6, b7, b8⟩
          by_cases ht : t = a + m
          · subst ht; right; unfold pk at hn'; omega
          · exact .inl (h2 t ht1 (by omega) n' hn')
        · have hkn : n = k := by
            apply Classical.byContradiction
            intro hkn
            have hs := hsame n hn (fun t ht1 ht2 n' hn' hx => by
              rcases g8 t ht1 ht2 n' hn' with h' | h'
              · rw [hx] at h'; omega
              · omega) (t0 - a) (by omega)
            have hs' := hsame n hn (fun t ht1 ht2 n' hn' hx => by
              rcases g8 t ht1 ht2 n' hn' with h' | h'
              · rw [hx] at h'; omega
              · omega) m (Nat.le_refl _)
            rw [show a + (t0 - a) = t0 by omega] at hs
            have hmon := dn_mono (S := S) (X := X) (L := L) (i := n) (show s + 1 ≤ a by omega)
            have hs1 : dn S X L (s + 1) n = 1 := by
              have := done_pos (L := L) (pick := srpPick S X L) (k := s) s3 hn n
              rw [if_pos rfl] at this
              unfold doneAt at this
              unfold dn at *
              omega
            have hrt0 : readyJ L (simU L (srpPick S X L) t0).done t0 n = true := rdy.2 ⟨by omega, by omega⟩
            have hbt : better L k n := better_of (pick_first g7'' hn hrt0 (by unfold dn at *; omega)) hkn
            obtain ⟨i2, hi2, hr2, hid2⟩ := h t0 g7 (by omega)
            obtain ⟨⟨c1, c2, c3⟩, _⟩ := blocker ok hi2 hr2 hid2 g7'' g1 g2
            have hmx := mx_inv (S := S) (X := X) ok.E t0 n k hn g1 hbt ⟨by unfold dn at *; omega, by unfold dn at *; omega⟩ ⟨c1, c2⟩ ⟨by unfold dn at *; omega, by unfold dn at *; omega⟩
            have htk : tD S L k = (gT S (L.getD k default).T).D := by unfold tD; rw [Int.toNat_natCast]
            have hDk := ok.D k g1
            have hDe := ok.D e' he'
            obtain ⟨s', q1, q2, q3⟩ := started g1 c1
            have hsR' : (L.getD k default).R ≤ s' := by
              rcases hf s' (simU L (srpPick S X L) s').done with e1 | ⟨m', e1, hm, hrm⟩
              · unfold pk at q3; omega
              · obtain rfl : k = m' := by unfold pk at q3; omega
                unfold readyJ at hrm
                rw [decide_eq_true_eq] at hrm
                exact hrm.1
            unfold keyD at g2 b6
            have hrs : readyJ L (simU L (srpPick S X L) s').done s' e' = true := by
              refine rdy.2 ⟨by omega, ?_⟩
              have := dn_mono (S := S) (X := X) (L := L) (i := e') (show s' ≤ a + m by omega)
              have := (rdy.1 b8).2
              omega
            refine start_first q2 q3 he' hrs (.inl ?_)
            unfold keyD; omega
          subst hkn
          have hst := hstep n
          rw [if_pos rfl] at hst
          refine .inr ⟨n, g1, g2, g3, g4, by omega, by omega, ⟨t0, g7, by omega, g7''⟩, fun t ht1 ht2 n' hn' => ?_, t1, e1, g9, by omega, g11⟩
          by_cases ht : t = a + m
          · subst ht; right; unfold pk at hn'; omega
          · exact g8 t ht1 (by omega) n' hn'
      · rw [decide_eq_false hnd] at hl
        have hfree : free (lateT S X L d) a (m + 1) = free (lateT S X L d) a m := by simp [free, hl]
        rcases ih with ⟨h1, h2⟩ | ⟨k, g1, g2, g3, g4, g5, g6, ⟨t0, g7, g7', g7''⟩, g8, t1, e1, g9, g10, g11⟩
        · refine .inl ⟨by rw [hfree]; exact h1, fun t ht1 ht2 n' hn' => ?_⟩
          by_cases ht : t = a + m
          · subst ht
            obtain rfl : n = n' := by unfold pk at hn'; omega
            omega
          · exact h2 t ht1 (by omega) n' hn'
        · have hkn : ¬ k = n := fun h' => by subst h'; omega
          have hst := hstep k
          rw [if_neg hkn] at hst
          refine .inr ⟨k, g1, g2, g3, g4, by omega, by omega, ⟨t0, g7, by omega, g7''⟩, fun t ht1 ht2 n' hn' => ?_, t1, e1, g9, by omega, g11⟩
          by_cases ht : t = a + m
          · subst ht
            obtain rfl : n = n' := by unfold pk at hn'; omega
            left; omega
          · exact g8 t ht1 (by omega) n' hn'

include ok in
/-- A job is blocked for at most one section. -/
theorem srp_blocked {i r f : Nat} (hi : i < L.length) (hr : (L.getD i default).R = r) (hfin : gI (simU L (srpPick S X L) 120).fin i = f) {m : Int} (hm0 : 0 ≤ m) (hm : ∀ k, k < L.length → (jX X L k).Ln ≤ m) : free (lateT S X L (keyD L i)) r (f - r) ≤ m := by
  have hf := srp_fair S X L
  have hrd : ∀ t, r ≤ t → t < r + (f - r) → ∃ i', i' < L.length ∧ readyJ L (simU L (srpPick S X L) t).done t i' = true ∧ keyD L i' ≤ keyD L i := fun t h1 h2 => by
    refine ⟨i, hi, rdy.2 ⟨by omega, ?_⟩, Int.le_refl _⟩
    have hinv := runInv hf ok.E 120 i hi
    have hf120 : f ≤ 120 := by
      rcases hinv.fin with ⟨h3, _⟩ | ⟨f', h3, h4, h5, _⟩
      · omega
      · omega
    have h3 : doneAt L (srpPick S X L) (f - 1) i ≠ (L.getD i default).E := fun hh => by
      have := (fin_iff hf ok.E hi (show f - 1 ≤ 120 by omega)).2 hh
      rw [hfin] at this; omega
    have h4 : dn S X L (f - 1) i ≤ (L.getD i default).E := (runInv hf ok.E (f - 1) i hi).le
    have h5 := dn_mono (S := S) (X := X) (L := L) (i := i) (show t ≤ f - 1 by omega)
    have h6 : dn S X L (f - 1) i ≠ (L.getD i default).E := h3
    omega
  rcases one_blk ok (d := keyD L i) (a := r) (f - r) hrd with ⟨h1, _⟩ | ⟨k, g1, g2, g3, g4, g5, g6, _⟩
  · omega
  · have := hm k g1
    omega
end

theorem srpOk_of {S : List Task} {X : List Sec} {L : List Job} (hX : secsOk S X) (h : jobsLegal S L) : SrpOk S X L where
  E := fun j hj => (h.2.1.mem hj).2.2.1
  R := fun j hj => (h.2.1.mem hj).2.1.1
  D := fun i hi => by
    have := h.2.2.2 _ (getD_mem hi)
    exact this
  D13 := fun i hi => by
    have hi2 := h.2.1.mem (getD_mem hi)
    have hx := gT_ok h.1 hi2.1.1 hi2.1.2
    unfold Task.ok at hx
    omega
  St := fun i hi => by
    have hi2 := (h.2.1.mem (getD_mem hi)).1
    obtain ⟨q, hq⟩ := Int.eq_ofNat_of_zero_le hi2.1
    have hs := hX.2.2 q (by have := hX.2.1; omega)
    unfold secOk at hs
    unfold jX
    rw [hq]
    omega

theorem hyper_ge {S : List Task} (hS : setOk S) {i : Nat} (hi : i < S.length) : (gT S i).D ≤ hyperN S := by
  have h1 := (hyperN_hyper hS).1
  have h2 := (hyperN_hyper hS).2 _ (List.getElem_mem hi)
  have hx := hS.2 _ (List.getElem_mem hi)
  unfold Task.ok at hx
  have h3 := Int.le_of_dvd (by omega) h2
  rw [gT_nat hi]
  omega

/-- A set that passes the test misses no deadline. -/
theorem srp_safe {S : List Task} {X : List Sec} {L : List Job} (hX : secsOk S X) (h : jobsLegal S L) (hfe : ∀ t : Int, 1 ≤ t → t ≤ hyperN S → dbf S t + blk S X t ≤ t) : missedL L (simU L (srpPick S X L) 120).fin = [] := by
  have ok := srpOk_of hX h
  have hf := srp_fair S X L
  have hfit : ∀ t : Nat, 1 ≤ t → dbf S t + blk S X t ≤ t := fun t ht => by
    by_cases hle : (t : Int) ≤ hyperN S
    · exact hfe t (by omega) hle
    · have h1 := dbf_fits h.1 (hyperN_hyper h.1) (fun t h1 h2 => by have := hfe t h1 h2; have := blkN_pos S X t S.length; unfold blk at *; omega) t
      have h2 : blk S X t = 0 := blkN_zero fun i hi => by have := hyper_ge h.1 hi; omega
      omega
  rw [missed_nil]
  intro j hj
  cases hl : lateAt L (simU L (srpPick S X L) 120).fin j with
  | false => rfl
  | true =>
    exfalso
    have hD13 := ok.D13 j hj
    have hDj := ok.D j hj
    have hRj := ok.R _ (getD_mem hj)
    obtain ⟨h1, h2⟩ := (late_iff hf ok.E hj (by omega)).1 hl
    obtain ⟨d, hd⟩ := Int.eq_ofNat_of_zero_le (show 0 ≤ (L.getD j default).D by omega)
    rw [hd, Int.toNat_natCast] at h2
    obtain ⟨a, ha, hQ, hmin⟩ := least (Q := fun a => ∀ t, a ≤ t → t < d → ∃ i, i < L.length ∧ readyJ L (simU L (srpPick S X L) t).done t i = true ∧ keyD L i ≤ d) d (fun t h1 h2 => by omega)
    have hjr : ∀ t, (L.getD j default).R ≤ (t : Nat) → t ≤ d → readyJ L (simU L (srpPick S X L) t).done t j = true := fun t h3 h4 => by
      refine rdy.2 ⟨h3, ?_⟩
      have := dn_mono (S := S) (X := X) (L := L) (i := j) h4
      unfold dn at *
      unfold doneAt at h2
      omega
    have had : a < d := by
      apply Classical.byContradiction
      intro hx
      obtain rfl : a = d := by omega
      rcases hmin with rfl | hmin
      · omega
      · refine hmin fun t h3 h4 => ?_
        obtain rfl : t = a - 1 := by omega
        exact ⟨j, hj, hjr _ (by omega) (by omega), by unfold keyD; omega⟩
    -- jobs released before that are done
    have past : ∀ i, i < L.length → keyD L i ≤ d → (L.getD i default).R < a → dn S X L a i = (L.getD i default).E := by
      intro i hi hDi hRi
      have hRi0 := ok.R _ (getD_mem hi)
      rcases hmin with rfl | hmin
      · omega
      · apply Classical.byContradiction
        intro hne
        refine hmin fun t h3 h4 => ?_
        by_cases ht : t = a - 1
        · subst ht
          refine ⟨i, hi, rdy.2 ⟨by omega, ?_⟩, hDi⟩
          have h5 := dn_mono (S := S) (X := X) (L := L) (i := i) (show a - 1 ≤ a by omega)
          have h6 : dn S X L a i ≤ _ := (runInv hf ok.E a i hi).le
          omega
        · exact hQ t (by omega) h4
    -- what runs
    have hruns : ∀ t, a ≤ t → t < d → ∃ n : Nat, n < L.length ∧ pk S X L t = n ∧ (within L a d n = true ∧ lateT S X L d t = false ∨ within L a d n = false ∧ lateT S X L d t = true) := by
      intro t h3 h4
      obtain ⟨i, hi, hr, hid⟩ := hQ t h3 h4
      rcases hf t (simU L (srpPick S X L) t).done with e | ⟨n, e, hn, hrn⟩
      · exact absurd ((srp_busy S X (fun j hj => by
            obtain ⟨q, hq, rfl⟩ := List.getElem_of_mem hj
            have := (ok.D13 q hq).2
            rw [getD_at hq] at this; exact this) ok.St) _ _ e i hi) (by rw [hr]; simp)
      · refine ⟨n, hn, e, ?_⟩
        rw [lateT_of (S := S) (X := X) (L := L) (d := d) (t := t) (n := n) e]
        by_cases hw : keyD L n ≤ d
        · refine .inl ⟨decide_eq_true ⟨?_, hw⟩, decide_eq_false (by omega)⟩
          apply Classical.byContradiction
          intro hlt
          have hfull := past n hn hw (by omega)
          have h5 := dn_mono (S := S) (X := X) (L := L) (i := n) h3
          have := (rdy.1 hrn).2
          omega
        · exact .inr ⟨decide_eq_false fun hh => hw hh.2, decide_eq_true (by omega)⟩
    have hcount : ∀ m, a + m ≤ d → work (within L a d) (doneAt L (srpPick S X L) (a + m)) L.length + free (lateT S X L d) a m = m := by
      intro m
      induction m with
      | zero =>
        intro _
        have : work (within L a d) (doneAt L (srpPick S X L) (a + 0)) L.length = 0 := by
          refine sumI_zero fun i hi => ?_
          split
          · rename_i hw
            exact done_rel hf hi a (of_decide_eq_true hw).1
          · rfl
        rw [this]; rfl
      | succ m ih =>
        intro hm
        have ih := ih (by omega)
        obtain ⟨n, hn, e, h3⟩ := hruns (a + m) (by omega) (by omega)
        rw [← Nat.add_assoc, work_pos e hn]
        simp only [free]
        rcases h3 with ⟨h3, h4⟩ | ⟨h3, h4⟩ <;> rw [h3, h4] <;> simp <;> omega
    have hc := hcount (d - a) (by omega)
    rw [show a + (d - a) = d by omega] at hc
    have hjw : within L a d j = true := by
      refine decide_eq_true ⟨?_, by omega⟩
      apply Classical.byContradiction
      intro hlt
      have := past j hj (by unfold keyD; omega) (by omega)
      have h5 := dn_mono (S := S) (X := X) (L := L) (i := j) ha
      unfold dn at *
      unfold doneAt at h2
      omega
    have hlt : work (within L a d) (doneAt L (srpPick S X L) d) L.length < work (within L a d) (fun i => (L.getD i default).E) L.length := by
      refine sumI_lt (j := j) (fun i hi => ?_) hj ?_
      · split
        · exact (runInv hf ok.E d i hi).le
        · exact Int.le_refl _
      · simp only; rw [hjw]; simpa using h2
    have hw := within_le h ha
    have hb : free (lateT S X L d) a (d - a) ≤ blk S X ((d : Int) - a) := by
      rcases one_blk ok (d := d) (a := a) (d - a) (fun t h3 h4 => hQ t h3 (by omega)) with ⟨h3, _⟩ | ⟨k, g1, g2, g3, g4, g5, g6, _, _, t1, e1, g9, g9', g10, g11, g12, g13, g14⟩
      · rw [h3]; exact blkN_pos S X _ _
      · have hk2 := (h.2.1.mem (getD_mem g1)).1
        obtain ⟨q, hq⟩ := Int.eq_ofNat_of_zero_le hk2.1
        have hDk := ok.D k g1
        have hDe := ok.D e1 g10
        have hjx : jX X L k = gX X q := by unfold jX; rw [hq]
        rw [hq] at hDk
        rw [hjx] at g4 g5 g13
        unfold keyD at g2 g12
        have hea : (a : Int) ≤ (L.getD e1 default).R := by
          apply Classical.byContradiction
          intro hlt
          have hfull := past e1 g10 g12 (by omega)
          have h5 := dn_mono (S := S) (X := X) (L := L) (i := e1) g9
          have := (rdy.1 g14).2
          omega
        have h50 := dn_mono (S := S) (X := X) (L := L) (i := k) (show a ≤ a + (d - a) by omega)
        have h6 := blkN_ge (S := S) (X := X) (t := (d : Int) - a) (k := S.length) (i := q) (by have := hk2.2; omega) (by omega) (by omega) (by have := hk2; have := ok.D13 e1 g10; omega)
        unfold blk
        omega
    have h7 := hfit (d - a) (by omega)
    rw [show ((d - a : Nat) : Int) = (d : Int) - a by omega] at h7 hc
    omega
end Go.Ds
