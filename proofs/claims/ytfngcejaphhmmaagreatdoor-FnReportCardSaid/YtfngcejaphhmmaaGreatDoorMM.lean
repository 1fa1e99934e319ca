
namespace Go.Ds
structure Task where
  C : Int
  D : Int
  P : Int
  deriving DecidableEq, Inhabited
def Task.ok (t : Task) : Prop := 1 ≤ t.C ∧ t.C ≤ 8 ∧ t.C ≤ t.D ∧ t.D ≤ t.P ∧ t.P ≤ 12
instance (t : Task) : Decidable t.ok := by unfold Task.ok; infer_instance
def setOk (L : List Task) : Prop := L.length ≤ 5 ∧ ∀ t ∈ L, t.ok
instance (L : List Task) : Decidable (setOk L) := by unfold setOk; infer_instance
theorem all_take_succ {α : Type} {p : α → Prop} {L : List α} {k : Nat} (h : k < L.length) : (∀ x ∈ L.take (k + 1), p x) ↔ (∀ x ∈ L.take k, p x) ∧ p L[k] := by
  rw [List.take_succ_eq_append_getElem h]
  simp only [List.mem_append, List.mem_singleton]
  constructor
  · exact fun hh => ⟨fun x hx => hh x (.inl hx), hh _ (.inr rfl)⟩
  · rintro ⟨h1, h2⟩ x (hx | rfl)
    · exact h1 x hx
    · exact h2
def idxF {α : Type} (p : α → Bool) (L : List α) : Int := match L.findIdx? p with
  | some i => i
  | none => -1
theorem idxF_found {α : Type} {p : α → Bool} {L : List α} {k : Nat} (h : k < L.length) (h1 : ∀ x ∈ L.take k, p x = false) (h2 : p L[k] = true) : idxF p L = k := by
  have : L.findIdx? p = some k := by
    rw [List.findIdx?_eq_some_iff_getElem]
    refine ⟨h, h2, fun j hj => ?_⟩
    have := h1 (L[j]'(by omega)) (by rw [List.mem_take_iff_getElem]; exact ⟨j, by omega, rfl⟩)
    simp [this]
  simp [idxF, this]
theorem idxF_none {α : Type} {p : α → Bool} {L : List α} (h1 : ∀ x ∈ L, p x = false) : idxF p L = -1 := by
  have : L.findIdx? p = none := by rw [List.findIdx?_eq_none_iff]; exact h1
  simp [idxF, this]
theorem idxF_any {α : Type} {p : α → Bool} {L : List α} : 0 ≤ idxF p L ↔ ∃ x ∈ L, p x = true := by
  unfold idxF
  cases h : L.findIdx? p with
  | none =>
    rw [List.findIdx?_eq_none_iff] at h
    simp only [Int.reduceNeg]
    constructor
    · intro h'; omega
    · rintro ⟨x, hx, hp⟩; rw [h x hx] at hp; cases hp
  | some i =>
    rw [List.findIdx?_eq_some_iff_getElem] at h
    obtain ⟨hi, hp, _⟩ := h
    simp only
    exact ⟨fun _ => ⟨L[i], List.getElem_mem _, hp⟩, fun _ => by omega⟩
def jitOk (L : List Task) (J : List Int) : Prop := setOk L ∧ J.length = L.length ∧ ∀ p ∈ L.zip J, 0 ≤ p.2 ∧ p.2 ≤ p.1.D - p.1.C
instance (L : List Task) (J : List Int) : Decidable (jitOk L J) := by unfold jitOk; infer_instance
theorem mem_zip_at {α β : Type} {L : List α} {J : List β} {k : Nat} (h1 : k < L.length) (h2 : k < J.length) : (L[k], J[k]) ∈ L.zip J := by
  have h3 : k < (L.zip J).length := by simp; omega
  have := List.getElem_mem h3
  rwa [List.getElem_zip] at this
end Go.Ds
/- The plain law: priority orders and response times. Definitions in plain Lean; no program in sight. -/
namespace Go.Ds
def ordOk (S : List Task) (O : List Int) : Prop := setOk S ∧ O.length = S.length ∧ (∀ k ∈ O, 0 ≤ k ∧ k < S.length) ∧ O.Nodup
instance (S : List Task) (O : List Int) : Decidable (ordOk S O) := by unfold ordOk; infer_instance
theorem nodup_take_succ {α : Type} {O : List α} {k : Nat} (h : k < O.length) : (O.take (k + 1)).Nodup ↔ (O.take k).Nodup ∧ O[k] ∉ O.take k := by
  rw [List.take_succ_eq_append_getElem h, List.nodup_append]
  simp only [List.mem_singleton, ne_eq]
  constructor
  · rintro ⟨h1, _, h3⟩
    exact ⟨h1, fun hm => h3 _ hm _ rfl rfl⟩
  · rintro ⟨h1, h2⟩
    exact ⟨h1, by simp, fun a ha b hb e => h2 (by rw [← hb, ← e]; exact ha)⟩
theorem idxF_own {O : List Int} {k : Nat} (h : k < O.length) : idxF (fun x => decide (x = O[k])) O = k ↔ O[k] ∉ O.take k := by
  constructor
  · intro he hm
    obtain ⟨j, hj, e⟩ := List.mem_take_iff_getElem.1 hm
    unfold idxF at he
    split at he
    · rename_i i hi
      have hik : i = k := by omega
      rw [List.findIdx?_eq_some_iff_getElem] at hi
      obtain ⟨_, _, hn⟩ := hi
      exact hn j (by omega) (by simpa using e)
    · omega
  · intro hm
    refine idxF_found h (fun x hx => ?_) (by simp)
    simp only [decide_eq_false_iff_not]
    rintro rfl
    exact hm hx
theorem idxF_mem {O : List Int} {x : Int} : 0 ≤ idxF (fun y => decide (y = x)) O ↔ x ∈ O := by
  rw [idxF_any]
  simp
def gT (S : List Task) (k : Int) : Task := S.getD k.toNat default
def gI (J : List Int) (k : Int) : Int := J.getD k.toNat 0
def nxt (S : List Task) (J : List Int) (A : List Int) (c r : Int) : Int := A.foldl (fun acc k => acc + (r + gI J k + (gT S k).P - 1) / (gT S k).P * (gT S k).C) c
def resp (S : List Task) (J : List Int) (A : List Int) (i : Int) : Nat → Int → Int
  | 0, _ => -1
  | f + 1, r => if r + gI J i ≤ (gT S i).D then if nxt S J A (gT S i).C r = r then r + gI J i else resp S J A i f (nxt S J A (gT S i).C r) else -1
def respOf (S : List Task) (J : List Int) (A : List Int) (i : Int) : Int := resp S J A i 20 (gT S i).C
def resps (S : List Task) (J : List Int) (O : List Int) : Nat → List Int
  | 0 => List.replicate S.length 0
  | k + 1 => (resps S J O k).set (O.getD k 0).toNat (respOf S J (O.take k) (O.getD k 0))
theorem resps_length (S : List Task) (J : List Int) (O : List Int) : ∀ k, (resps S J O k).length = S.length
  | 0 => by simp [resps]
  | k + 1 => by rw [resps, List.length_set]; exact resps_length S J O k
theorem nxt_nil (S : List Task) (J : List Int) (c r : Int) : nxt S J [] c r = c := rfl
theorem nxt_append (S : List Task) (J A : List Int) (k c r : Int) : nxt S J (A ++ [k]) c r = nxt S J A c r + (r + gI J k + (gT S k).P - 1) / (gT S k).P * (gT S k).C := by simp [nxt]
structure Inst (S : List Task) (J A : List Int) (i : Int) : Prop where
  hS : setOk S
  hJ : jitOk S J
  hA : ∀ k ∈ A, 0 ≤ k ∧ k < S.length
  hi : 0 ≤ i ∧ i < S.length
  hl : A.length ≤ 5
theorem gT_eq {S : List Task} {k : Int} (h : k.toNat < S.length) : gT S k = S[k.toNat] := by simp [gT, List.getD_eq_getElem?_getD, h]
theorem gI_eq {J : List Int} {k : Int} (h : k.toNat < J.length) : gI J k = J[k.toNat] := by simp [gI, List.getD_eq_getElem?_getD, h]
theorem gT_ok {S : List Task} {k : Int} (hS : setOk S) (h0 : 0 ≤ k) (h : k < S.length) : (gT S k).ok := by
  have hk : k.toNat < S.length := by omega
  rw [gT_eq hk]; exact hS.2 _ (List.getElem_mem hk)
theorem gI_ok {S : List Task} {J : List Int} {k : Int} (hJ : jitOk S J) (h0 : 0 ≤ k) (h : k < S.length) : 0 ≤ gI J k ∧ gI J k ≤ 12 := by
  have hk : k.toNat < S.length := by omega
  have hj : k.toNat < J.length := by have := hJ.2.1; omega
  have h1 := hJ.2.2 _ (mem_zip_at hk hj)
  have h2 := hJ.1.2 _ (List.getElem_mem hk)
  unfold Task.ok at h2
  rw [gI_eq hj]
  simp only at h1
  omega
def ask (S : List Task) (J : List Int) (r k : Int) : Int := (r + gI J k + (gT S k).P - 1) / (gT S k).P * (gT S k).C
theorem ask_bounds {S : List Task} {J : List Int} {r k : Int} (hS : setOk S) (hJ : jitOk S J) (h0 : 0 ≤ k) (h : k < S.length) (hr : 0 ≤ r) (hr2 : r ≤ 100) :
    (0 ≤ (r + gI J k + (gT S k).P - 1) / (gT S k).P ∧ (r + gI J k + (gT S k).P - 1) / (gT S k).P ≤ 130) ∧ 0 ≤ ask S J r k ∧ ask S J r k ≤ 1040 := by
  have h1 := gT_ok hS h0 h
  have h2 := gI_ok hJ h0 h
  unfold Task.ok at h1
  have q1 : 0 ≤ (r + gI J k + (gT S k).P - 1) / (gT S k).P := Int.ediv_nonneg (by omega) (by omega)
  have q2 : (r + gI J k + (gT S k).P - 1) / (gT S k).P ≤ r + gI J k + (gT S k).P - 1 := Int.ediv_le_self _ (by omega)
  have q3 : (r + gI J k + (gT S k).P - 1) / (gT S k).P ≤ 130 := by omega
  refine ⟨⟨q1, q3⟩, Int.mul_nonneg q1 (by omega), ?_⟩
  unfold ask
  calc (r + gI J k + (gT S k).P - 1) / (gT S k).P * (gT S k).C ≤ 130 * 8 := Int.mul_le_mul q3 (by omega) (by omega) (by omega)
    _ ≤ 1040 := by decide
theorem nxt_bounds {S : List Task} {J : List Int} {r c : Int} (hS : setOk S) (hJ : jitOk S J) (hr : 0 ≤ r) (hr2 : r ≤ 100) : ∀ (A : List Int) (c : Int), (∀ k ∈ A, 0 ≤ k ∧ k < S.length) → c ≤ nxt S J A c r ∧ nxt S J A c r ≤ c + 1040 * A.length
  | [], c, _ => by simp [nxt]
  | k :: A, c, h => by
    have hk := h k (by simp)
    have h1 := (ask_bounds hS hJ hk.1 hk.2 hr hr2).2
    have h2 := nxt_bounds (r := r) (c := c) hS hJ hr hr2 A (c + ask S J r k) fun x hx => h x (by simp [hx])
    have e : nxt S J (k :: A) c r = nxt S J A (c + ask S J r k) r := rfl
    rw [e, List.length_cons]
    push_cast
    omega
theorem ask_mono {S : List Task} {J : List Int} {r r' k : Int} (hS : setOk S) (h0 : 0 ≤ k) (h : k < S.length) (hr : r ≤ r') : ask S J r k ≤ ask S J r' k := by
  have h1 := gT_ok hS h0 h
  unfold Task.ok at h1
  exact Int.mul_le_mul_of_nonneg_right (Int.ediv_le_ediv (by omega) (by omega)) (by omega)
theorem nxt_mono {S : List Task} {J : List Int} {r r' : Int} (hS : setOk S) (hr : r ≤ r') : ∀ (A : List Int) (c c' : Int), c ≤ c' → (∀ k ∈ A, 0 ≤ k ∧ k < S.length) → nxt S J A c r ≤ nxt S J A c' r'
  | [], c, c', hc, _ => hc
  | k :: A, c, c', hc, h => by
    have hk := h k (by simp)
    have := ask_mono (J := J) hS hk.1 hk.2 hr
    exact nxt_mono hS hr A (c + ask S J r k) (c' + ask S J r' k) (by omega) fun x hx => h x (by simp [hx])
def Step (S : List Task) (J A : List Int) (i r : Int) : Prop :=
  (gT S i).C ≤ r ∧ r ≤ 6000 ∧ (r ≤ 100 → r ≤ nxt S J A (gT S i).C r) ∧ ∃ f : Nat, resp S J A i f r = respOf S J A i ∧ 20 + (gT S i).C ≤ f + r
theorem Step.first {S : List Task} {J A : List Int} {i : Int} (h : Inst S J A i) : Step S J A i (gT S i).C := by
  have h1 := gT_ok h.hS h.hi.1 h.hi.2
  unfold Task.ok at h1
  refine ⟨by omega, by omega, fun _ => (nxt_bounds (c := 0) h.hS h.hJ (by omega) (by omega) A _ h.hA).1, 20, rfl, by omega⟩
theorem Step.go {S : List Task} {J A : List Int} {i r : Int} (h : Inst S J A i) (hs : Step S J A i r) (hle : r + gI J i ≤ (gT S i).D) :
    (0 ≤ r ∧ r ≤ 12) ∧ (nxt S J A (gT S i).C r = r → respOf S J A i = r + gI J i) ∧ (nxt S J A (gT S i).C r ≠ r → Step S J A i (nxt S J A (gT S i).C r) ∧ r < nxt S J A (gT S i).C r) := by
  have h1 := gT_ok h.hS h.hi.1 h.hi.2
  have h2 := gI_ok h.hJ h.hi.1 h.hi.2
  unfold Task.ok at h1
  obtain ⟨a1, a2, a3, f, hf, hfr⟩ := hs
  have hr : 0 ≤ r ∧ r ≤ 12 := by omega
  obtain ⟨f', rfl⟩ : ∃ f', f = f' + 1 := ⟨f - 1, by omega⟩
  simp only [resp, hle, if_true] at hf
  have hb := nxt_bounds (c := 0) h.hS h.hJ hr.1 (by omega) A (gT S i).C h.hA
  have hl := h.hl
  refine ⟨hr, fun e => ?_, fun e => ?_⟩
  · rw [if_pos e] at hf; exact hf.symm
  · rw [if_neg e] at hf
    have hlt : r < nxt S J A (gT S i).C r := by have := a3 (by omega); omega
    refine ⟨⟨hb.1, by omega, fun _ => nxt_mono h.hS (by omega) A _ _ (by omega) h.hA, f', hf, by omega⟩, hlt⟩
theorem Step.stop {S : List Task} {J A : List Int} {i r : Int} (hs : Step S J A i r) (hle : ¬ r + gI J i ≤ (gT S i).D) : respOf S J A i = -1 := by
  obtain ⟨_, _, _, f, hf, _⟩ := hs
  cases f with
  | zero => exact hf.symm
  | succ f => simp only [resp, hle, if_false] at hf; exact hf.symm
end Go.Ds
/- The plain law: jobs and legal release patterns. Definitions in plain Lean; no program in sight. -/
namespace Go.Ds
structure Job where
  T : Int
  R : Int
  D : Int
  E : Int
  deriving DecidableEq, Inhabited
def lastAt (at_ : Job → Int) (L : List Job) : Int → Option Int := L.foldl (fun f j => fun u => if u = j.T then some (at_ j) else f u) (fun _ => none)
def before (a b : Job) : Prop := a.R < b.R ∨ (a.R = b.R ∧ a.T < b.T)
instance (a b : Job) : Decidable (before a b) := by unfold before; infer_instance
def jrowAt (n : Int) (cost : Int → Int) (L : List Job) (k : Nat) (h : k < L.length) : Prop :=
  (0 ≤ L[k].T ∧ L[k].T < n) ∧ (0 ≤ L[k].R ∧ L[k].R ≤ 119) ∧ (1 ≤ L[k].E ∧ L[k].E ≤ cost L[k].T) ∧ (0 < k → before (L[k - 1]'(by omega)) L[k])
def orderedP (n : Int) (cost : Int → Int) (L : List Job) : Prop := L.length ≤ 60 ∧ ∀ k (h : k < L.length), jrowAt n cost L k h
def gapAt (at_ : Job → Int) (per : Int → Int) (L : List Job) (k : Nat) (h : k < L.length) : Prop :=
  ∀ b, lastAt at_ (L.take k) L[k].T = some b → per L[k].T ≤ at_ L[k] - b
def spacedP (at_ : Job → Int) (per : Int → Int) (L : List Job) : Prop := ∀ k (h : k < L.length), gapAt at_ per L k h
def costOf (S : List Task) (t : Int) : Int := (gT S t).C
def perOf (S : List Task) (t : Int) : Int := (gT S t).P
def arrOf (S : List Task) (j : Job) : Int := j.D - (gT S j.T).D
def jobsLegal (S : List Task) (L : List Job) : Prop :=
  setOk S ∧ orderedP S.length (costOf S) L ∧ spacedP Job.R (perOf S) L ∧ ∀ j ∈ L, j.D = j.R + (gT S j.T).D
def jitLegal (S : List Task) (J : List Int) (L : List Job) : Prop :=
  jitOk S J ∧ orderedP S.length (costOf S) L ∧ (∀ j ∈ L, ((gT S j.T).D ≤ j.D ∧ j.D ≤ 132) ∧ 0 ≤ j.R - arrOf S j ∧ j.R - arrOf S j ≤ gI J j.T) ∧ spacedP (arrOf S) (perOf S) L
theorem orderedP.mem {n : Int} {cost : Int → Int} {L : List Job} (h : orderedP n cost L) {j : Job} (hj : j ∈ L) : (0 ≤ j.T ∧ j.T < n) ∧ (0 ≤ j.R ∧ j.R ≤ 119) ∧ 1 ≤ j.E ∧ j.E ≤ cost j.T := by
  obtain ⟨k, hk, rfl⟩ := List.getElem_of_mem hj
  obtain ⟨h1, h2, h3, _⟩ := h.2 k hk
  exact ⟨h1, h2, h3⟩
noncomputable instance (n : Int) (cost : Int → Int) (L : List Job) : Decidable (orderedP n cost L) := Classical.propDecidable _
noncomputable instance (a : Job → Int) (per : Int → Int) (L : List Job) : Decidable (spacedP a per L) := Classical.propDecidable _
noncomputable instance (S : List Task) (L : List Job) : Decidable (jobsLegal S L) := Classical.propDecidable _
noncomputable instance (S : List Task) (J : List Int) (L : List Job) : Decidable (jitLegal S J L) := Classical.propDecidable _
end Go.Ds
/- The plain law: response times as least fixed points; more jitter never shortens them. No program in sight. -/
namespace Go.Ds
theorem nodup_len : ∀ (n : Nat) (O : List Int), O.Nodup → (∀ x ∈ O, 0 ≤ x ∧ x < n) → O.length ≤ n
  | 0, O, _, h => by
    cases O with
    | nil => simp
    | cons x O => have := h x (by simp); omega
  | n + 1, O, hn, h => by
    by_cases hm : (n : Int) ∈ O
    · have h1 := nodup_len n (O.erase n) (hn.erase _) (fun x hx => by
        have h2 := (List.Nodup.mem_erase_iff hn).1 hx
        have := h x h2.2
        have : x ≠ n := h2.1
        omega)
      rw [List.length_erase_of_mem hm] at h1
      omega
    · have := nodup_len n O hn (fun x hx => by
        have := h x hx
        have : x ≠ n := fun e => hm (e ▸ hx)
        omega)
      omega
theorem ordOk.mem {S : List Task} {O : List Int} (h : ordOk S O) {i : Int} (h0 : 0 ≤ i) (h1 : i < S.length) : i ∈ O := by
  refine Classical.byContradiction fun hm => ?_
  have := nodup_len S.length (i :: O) (by rw [List.nodup_cons]; exact ⟨hm, h.2.2.2⟩) (fun x hx => by
    rcases List.mem_cons.1 hx with rfl | hx
    · exact ⟨h0, h1⟩
    · exact h.2.2.1 x hx)
  rw [List.length_cons, h.2.1] at this
  omega
theorem resps_at {S : List Task} {J O : List Int} (hO : ordOk S O) : ∀ (k m : Nat) (hm : m < k) (hk : k ≤ O.length), gI (resps S J O k) (O.getD m 0) = respOf S J (O.take m) (O.getD m 0)
  | 0, m, hm, _ => by omega
  | k + 1, m, hm, hk => by
    have hkO : k < O.length := by omega
    have hmO : m < O.length := by omega
    have hr : ∀ q, (h : q < O.length) → 0 ≤ O[q] ∧ O[q] < S.length := fun q h => hO.2.2.1 _ (List.getElem_mem h)
    have gk : O.getD k 0 = O[k] := by simp [List.getD_eq_getElem?_getD, hkO]
    have gm : O.getD m 0 = O[m] := by simp [List.getD_eq_getElem?_getD, hmO]
    unfold gI
    rw [resps, List.getD_eq_getElem?_getD, List.getElem?_set]
    rcases Nat.lt_succ_iff_lt_or_eq.1 hm with h' | rfl
    · have hne : (O.getD k 0).toNat ≠ (O.getD m 0).toNat := by
        rw [gk, gm]
        have h1 := hr k hkO
        have h2 := hr m hmO
        have := (List.pairwise_iff_getElem.1 hO.2.2.2) m k hmO hkO h'
        intro e
        exact this (by omega)
      rw [if_neg hne]
      have := resps_at (J := J) hO k m h' (by omega)
      unfold gI at this
      rwa [List.getD_eq_getElem?_getD] at this
    · have h1 := hr m hkO
      rw [if_pos rfl, if_pos (by rw [resps_length, gk]; omega)]
      rfl
theorem respOf_char {S : List Task} {J A : List Int} {i : Int} (h : Inst S J A i) :
    (respOf S J A i = -1 ∧ ∀ r, (gT S i).C ≤ r → r + gI J i ≤ (gT S i).D → r < nxt S J A (gT S i).C r) ∨
    ∃ r, ((gT S i).C ≤ r ∧ r + gI J i ≤ (gT S i).D ∧ nxt S J A (gT S i).C r = r) ∧ respOf S J A i = r + gI J i ∧ ∀ r', (gT S i).C ≤ r' → r' < r → r' < nxt S J A (gT S i).C r' := by
  have key : ∀ (n : Nat) (r : Int), (6001 - r).toNat ≤ n → Step S J A i r → (∀ r', (gT S i).C ≤ r' → r' < r → r' < nxt S J A (gT S i).C r') →
      (respOf S J A i = -1 ∧ ∀ r, (gT S i).C ≤ r → r + gI J i ≤ (gT S i).D → r < nxt S J A (gT S i).C r) ∨
      ∃ r, ((gT S i).C ≤ r ∧ r + gI J i ≤ (gT S i).D ∧ nxt S J A (gT S i).C r = r) ∧ respOf S J A i = r + gI J i ∧ ∀ r', (gT S i).C ≤ r' → r' < r → r' < nxt S J A (gT S i).C r' := by
    intro n
    induction n with
    | zero => intro r hn hs; have := hs.2.1; omega
    | succ n ih =>
      intro r hn hs hlow
      by_cases hle : r + gI J i ≤ (gT S i).D
      · obtain ⟨hr, hst, hgo⟩ := hs.go h hle
        by_cases e : nxt S J A (gT S i).C r = r
        · exact .inr ⟨r, ⟨hs.1, hle, e⟩, hst e, hlow⟩
        · obtain ⟨hs', hlt⟩ := hgo e
          refine ih _ (by omega) hs' fun r' h1 h2 => ?_
          rcases Int.lt_or_le r' r with h3 | h3
          · exact hlow r' h1 h3
          · have := nxt_mono (J := J) h.hS h3 A (gT S i).C (gT S i).C (by omega) h.hA
            omega
      · exact .inl ⟨hs.stop hle, fun r' h1 h2 => hlow r' h1 (by omega)⟩
  exact key _ _ (Nat.le_refl _) (Step.first h) fun r' h1 h2 => by omega
theorem respOf_bounds {S : List Task} {J A : List Int} {i : Int} (h : Inst S J A i) (hv : 0 ≤ respOf S J A i) : gI J i + (gT S i).C ≤ respOf S J A i ∧ respOf S J A i ≤ (gT S i).D := by
  rcases respOf_char h with ⟨e, _⟩ | ⟨r, ⟨d1, d2, d3⟩, e, _⟩ <;> omega
theorem zeros_ok {S : List Task} (hS : setOk S) : jitOk S (List.replicate S.length 0) := by
  refine ⟨hS, by simp, fun p hp => ?_⟩
  have h1 := List.of_mem_zip hp
  have h2 := hS.2 _ h1.1
  rw [List.mem_replicate] at h1
  unfold Task.ok at h2
  omega
theorem gI_zeros (n : Nat) (k : Int) : gI (List.replicate n 0) k = 0 := by
  unfold gI
  rw [List.getD_eq_getElem?_getD, List.getElem?_replicate]
  split <;> rfl
theorem gI_nat {J : List Int} {k : Nat} (h : k < J.length) : gI J k = J[k] := by simp [gI, List.getD_eq_getElem?_getD, h]
theorem gT_nat {S : List Task} {k : Nat} (h : k < S.length) : gT S k = S[k] := by simp [gT, List.getD_eq_getElem?_getD, h]
theorem inst_take {S : List Task} {J O : List Int} (hJ : jitOk S J) (hO : ordOk S O) {m : Nat} (hm : m < O.length) : Inst S J (O.take m) O[m] := by
  refine ⟨hJ.1, hJ, fun x hx => hO.2.2.1 x (List.mem_of_mem_take hx), hO.2.2.1 _ (List.getElem_mem hm), ?_⟩
  have := hJ.1.1
  have := hO.2.1
  rw [List.length_take]; omega
theorem resps_get {S : List Task} {J O : List Int} (hO : ordOk S O) {i : Int} (h0 : 0 ≤ i) (h1 : i < S.length) : ∃ m, ∃ h : m < O.length, O[m] = i ∧ gI (resps S J O O.length) i = respOf S J (O.take m) i := by
  obtain ⟨m, hm, e⟩ := List.getElem_of_mem (hO.mem h0 h1)
  refine ⟨m, hm, e, ?_⟩
  have := resps_at (J := J) hO O.length m hm (Nat.le_refl _)
  rw [show O.getD m 0 = i from by simp [List.getD_eq_getElem?_getD, hm, e]] at this
  exact this
end Go.Ds
/- The plain law: simulated schedules. Definitions in plain Lean; no program in sight. -/
namespace Go.Ds
def bestF (n : Nat) (ok : Nat → Bool) (key : Nat → Int) : Int := (List.range n).foldl (fun b i => if ok i = true ∧ (b < 0 ∨ key i < key b.toNat) then (i : Int) else b) (-1)
theorem bestF_succ (n : Nat) (ok : Nat → Bool) (key : Nat → Int) : bestF (n + 1) ok key = if ok n = true ∧ (bestF n ok key < 0 ∨ key n < key (bestF n ok key).toNat) then (n : Int) else bestF n ok key := by
  simp only [bestF, List.range_succ, List.foldl_append, List.foldl_cons, List.foldl_nil]
  rfl
theorem bestF_spec (ok : Nat → Bool) (key : Nat → Int) : ∀ n, (bestF n ok key = -1 ∧ ∀ i, i < n → ok i = false) ∨
    ∃ k : Nat, bestF n ok key = k ∧ k < n ∧ ok k = true ∧ (∀ i, i < n → ok i = true → key k ≤ key i) ∧ ∀ i, i < k → ok i = true → key k < key i
  | 0 => .inl ⟨rfl, fun i h => by omega⟩
  | n + 1 => by
    rw [bestF_succ]
    rcases bestF_spec ok key n with ⟨e, h⟩ | ⟨k, e, hk, hok, h1, h2⟩
    · by_cases hn : ok n = true
      · rw [if_pos ⟨hn, .inl (by omega)⟩]
        refine .inr ⟨n, rfl, by omega, hn, fun i hi hoi => ?_, fun i hi hoi => ?_⟩
        · rcases Nat.lt_succ_iff_lt_or_eq.1 hi with h' | rfl
          · rw [h i h'] at hoi; cases hoi
          · exact Int.le_refl _
        · rw [h i hi] at hoi; cases hoi
      · rw [if_neg (fun hh => hn hh.1)]
        refine .inl ⟨e, fun i hi => ?_⟩
        rcases Nat.lt_succ_iff_lt_or_eq.1 hi with h' | rfl
        · exact h i h'
        · simpa using hn
    · by_cases hn : ok n = true ∧ key n < key k
      · rw [if_pos ⟨hn.1, .inr (by rw [e]; exact hn.2)⟩]
        refine .inr ⟨n, rfl, by omega, hn.1, fun i hi hoi => ?_, fun i hi hoi => ?_⟩
        · rcases Nat.lt_succ_iff_lt_or_eq.1 hi with h' | rfl
          · have := h1 i h' hoi; omega
          · exact Int.le_refl _
        · have := h1 i hi hoi; omega
      · have hn' : ¬ (ok n = true ∧ (bestF n ok key < 0 ∨ key n < key (bestF n ok key).toNat)) := by
          rintro ⟨g1, g2 | g2⟩
          · omega
          · rw [e] at g2; exact hn ⟨g1, g2⟩
        rw [if_neg hn']
        refine .inr ⟨k, e, by omega, hok, fun i hi hoi => ?_, h2⟩
        rcases Nat.lt_succ_iff_lt_or_eq.1 hi with h' | rfl
        · exact h1 i h' hoi
        · have : ¬ key i < key k := fun h => hn ⟨hoi, h⟩
          omega
theorem bestF_range (ok : Nat → Bool) (key : Nat → Int) (n : Nat) : -1 ≤ bestF n ok key ∧ bestF n ok key < n := by
  rcases bestF_spec ok key n with ⟨e, _⟩ | ⟨k, e, hk, _⟩ <;> omega
/-- A simulation: what the picker remembers; how many ticks each job has run; what ran in each tick; when each job finished. -/
structure Sch (ι : Type) where
  st : ι
  done : List Int
  run : List Int
  fin : List Int
def tick {ι : Type} (L : List Job) (pick : ι → Nat → List Int → Int × ι) (now : Nat) (s : Sch ι) : Sch ι :=
  let i := (pick s.st now s.done).1
  let k := i.toNat
  if i < 0 then ⟨(pick s.st now s.done).2, s.done, s.run ++ [i], s.fin⟩
  else ⟨(pick s.st now s.done).2, s.done.set k (gI s.done k + 1), s.run ++ [i], if gI s.done k + 1 = (L.getD k default).E then s.fin.set k (now + 1) else s.fin⟩
def sim {ι : Type} (L : List Job) (pick : ι → Nat → List Int → Int × ι) (s0 : ι) : Nat → Sch ι
  | 0 => ⟨s0, List.replicate L.length 0, [], List.replicate L.length (-1)⟩
  | n + 1 => tick L pick n (sim L pick s0 n)
def readyJ (L : List Job) (done : List Int) (now : Nat) (i : Nat) : Bool := decide ((L.getD i default).R ≤ now ∧ gI done i < (L.getD i default).E)
def edfPick (L : List Job) (now : Nat) (done : List Int) : Int := bestF L.length (readyJ L done now) fun i => (L.getD i default).D
def simU (L : List Job) (pick : Nat → List Int → Int) : Nat → Sch Unit := sim L (fun _ now done => (pick now done, ())) ()
section
variable {ι : Type} {L : List Job} {pick : ι → Nat → List Int → Int × ι} {s0 : ι}
theorem sim_lens : ∀ n, (sim L pick s0 n).done.length = L.length ∧ (sim L pick s0 n).fin.length = L.length ∧ (sim L pick s0 n).run.length = n
  | 0 => by simp [sim]
  | n + 1 => by
    have h := sim_lens n
    simp only [sim, tick]
    split
    · simp [h]
    · refine ⟨by simp [h], ?_, by simp [h]⟩
      split <;> simp [h]
end
theorem gI_set {l : List Int} {k : Nat} (h : k < l.length) (v : Int) (i : Nat) : gI (l.set k v) i = if k = i then v else gI l i := by
  unfold gI
  simp only [Int.toNat_natCast, List.getD_eq_getElem?_getD, List.getElem?_set]
  by_cases e : k = i
  · subst e; simp [h]
  · simp [e]
theorem gI_rep (n : Nat) (v : Int) (i : Nat) (h : i < n) : gI (List.replicate n v) i = v := by
  simp [gI, List.getD_eq_getElem?_getD, List.getElem?_replicate, h]
theorem sim_done {ι : Type} {L : List Job} {pick : ι → Nat → List Int → Int × ι} {s0 : ι} (hr : ∀ s now done, (pick s now done).1 < L.length) : ∀ n (i : Nat), i < L.length → 0 ≤ gI (sim L pick s0 n).done i ∧ gI (sim L pick s0 n).done i ≤ n
  | 0, i, h => by simp only [sim]; rw [gI_rep _ _ _ h]; omega
  | n + 1, i, h => by
    have ih := sim_done hr (s0 := s0) n i h
    have hl := sim_lens (L := L) (pick := pick) (s0 := s0) n
    simp only [sim, tick]
    have hp := hr (sim L pick s0 n).st n (sim L pick s0 n).done
    split
    · simp only; omega
    · rw [gI_set (by omega)]
      split
      · rename_i e; rw [← e] at ih; omega
      · omega
theorem sim_run_succ {ι : Type} {L : List Job} {pick : ι → Nat → List Int → Int × ι} {s0 : ι} (n : Nat) : (sim L pick s0 (n + 1)).run = (sim L pick s0 n).run ++ [(pick (sim L pick s0 n).st n (sim L pick s0 n).done).1] := by
  simp only [sim, tick]; split <;> rfl
end Go.Ds
/- The plain law: what a simulated schedule keeps. Definitions in plain Lean; no program in sight. -/
namespace Go.Ds
def Fair (L : List Job) (pick : Nat → List Int → Int) : Prop := ∀ now done, pick now done = -1 ∨ ∃ n : Nat, pick now done = n ∧ n < L.length ∧ readyJ L done now n = true
theorem best_fair {L : List Job} {ok : Nat → Bool} {key : Nat → Int} {now : Nat} {done : List Int} (h : ∀ i, ok i = true → readyJ L done now i = true) : bestF L.length ok key = -1 ∨ ∃ n : Nat, bestF L.length ok key = n ∧ n < L.length ∧ readyJ L done now n = true := by
  rcases bestF_spec ok key L.length with ⟨e, _⟩ | ⟨k, e, hk, hok, _⟩
  · exact .inl e
  · exact .inr ⟨k, e, hk, h k hok⟩
theorem edf_fair (L : List Job) : Fair L (edfPick L) := fun now done => best_fair fun _ h => h
theorem Fair.lt {L : List Job} {pick : Nat → List Int → Int} (h : Fair L pick) (now : Nat) (done : List Int) : -1 ≤ pick now done ∧ pick now done < L.length := by
  rcases h now done with e | ⟨n, e, hn, _⟩ <;> omega
section
variable {L : List Job} {pick : Nat → List Int → Int}
theorem simU_lens (n : Nat) : (simU L pick n).done.length = L.length ∧ (simU L pick n).fin.length = L.length ∧ (simU L pick n).run.length = n := sim_lens (L := L) (pick := fun _ now done => (pick now done, ())) (s0 := ()) n
theorem simU_succ (n : Nat) : simU L pick (n + 1) = tick L (fun _ now done => (pick now done, ())) n (simU L pick n) := rfl
theorem simU_run (n : Nat) : (simU L pick (n + 1)).run = (simU L pick n).run ++ [pick n (simU L pick n).done] := sim_run_succ (L := L) (pick := fun _ now done => (pick now done, ())) (s0 := ()) n
/-- What a run keeps, of job i, after k ticks. -/
structure RunInv (L : List Job) (pick : Nat → List Int → Int) (k i : Nat) : Prop where
  pos : 0 ≤ gI (simU L pick k).done i
  le : gI (simU L pick k).done i ≤ (L.getD i default).E
  cnt : ((simU L pick k).run.count (i : Int) : Int) = gI (simU L pick k).done i
  fin : (gI (simU L pick k).fin i = -1 ∧ gI (simU L pick k).done i < (L.getD i default).E) ∨
    ∃ f : Nat, gI (simU L pick k).fin i = f ∧ 1 ≤ f ∧ f ≤ k ∧ gI (simU L pick k).done i = (L.getD i default).E ∧ gI (simU L pick k).run ((f - 1 : Nat) : Int) = i ∧ ∀ t : Nat, f ≤ t → t < k → gI (simU L pick k).run t ≠ i
theorem gI_app {l : List Int} {x : Int} {t : Nat} (h : t < l.length) : gI (l ++ [x]) t = gI l t := by
  unfold gI
  simp only [Int.toNat_natCast, List.getD_eq_getElem?_getD]
  rw [List.getElem?_append_left h]
theorem gI_last {l : List Int} {x : Int} {t : Nat} (h : l.length = t) : gI (l ++ [x]) t = x := by
  unfold gI
  simp only [Int.toNat_natCast, List.getD_eq_getElem?_getD]
  rw [List.getElem?_append_right (by omega)]; simp [h]
theorem runInv (hf : Fair L pick) (hE : ∀ j ∈ L, 1 ≤ j.E) : ∀ (k i : Nat), i < L.length → RunInv L pick k i
  | 0, i, hi => by
    have hEi : 1 ≤ (L.getD i default).E := by
      rw [show L.getD i default = L[i] from by simp [List.getD_eq_getElem?_getD, hi]]
      exact hE _ (List.getElem_mem hi)
    have h0 : gI (simU L pick 0).done i = 0 := gI_rep _ _ _ hi
    have h1 : gI (simU L pick 0).fin i = -1 := gI_rep _ _ _ hi
    refine ⟨by omega, by omega, ?_, .inl ⟨h1, by omega⟩⟩
    rw [h0]; rfl
  | k + 1, i, hi => by
    have ih := runInv hf hE k i hi
    obtain ⟨l1, l2, l3⟩ := simU_lens (L := L) (pick := pick) k
    have hrun := simU_run (L := L) (pick := pick) k
    have hstep := simU_succ (L := L) (pick := pick) k
    obtain ⟨p1, p2, p3, p4⟩ := ih
    rcases hf k (simU L pick k).done with e | ⟨n, e, hn, hrd⟩
    · have hd : (simU L pick (k + 1)).done = (simU L pick k).done ∧ (simU L pick (k + 1)).fin = (simU L pick k).fin := by rw [hstep]; simp [tick, e]
      rw [e] at hrun
      refine ⟨by rw [hd.1]; exact p1, by rw [hd.1]; exact p2, ?_, ?_⟩
      · rw [hd.1, hrun, List.count_append, ← p3]
        rw [show List.count (i : Int) [-1] = 0 from by rw [List.count_eq_zero]; simp <;> omega]; try rfl
      · rw [hd.1, hd.2, hrun]
        rcases p4 with h | ⟨f, q1, q2, q3, q4, q5, q6⟩
        · exact .inl h
        · refine .inr ⟨f, q1, q2, by omega, q4, ?_, fun t h1 h2 => ?_⟩
          · rw [gI_app (by omega)]; exact q5
          · rcases Nat.lt_succ_iff_lt_or_eq.1 h2 with h' | rfl
            · rw [gI_app (by omega)]; exact q6 t h1 h'
            · rw [gI_last l3]; omega
    · rw [e] at hrun
      have hneg : ¬ (n : Int) < 0 := by omega
      have hd : (simU L pick (k + 1)).done = (simU L pick k).done.set n (gI (simU L pick k).done n + 1) ∧ (simU L pick (k + 1)).fin = if gI (simU L pick k).done n + 1 = (L.getD n default).E then (simU L pick k).fin.set n (k + 1) else (simU L pick k).fin := by
        rw [hstep]; simp [tick, e, hneg]
      simp only [readyJ, decide_eq_true_eq] at hrd
      have hdi : gI (simU L pick (k + 1)).done i = if n = i then gI (simU L pick k).done n + 1 else gI (simU L pick k).done i := by rw [hd.1, gI_set (by omega)]
      by_cases hni : n = i
      · subst hni
        rw [if_pos rfl] at hdi
        have hcnt : ((simU L pick (k + 1)).run.count (n : Int) : Int) = gI (simU L pick k).done n + 1 := by
          rw [hrun, List.count_append, ← p3]; simp
        refine ⟨by omega, by omega, by omega, ?_⟩
        by_cases hfin : gI (simU L pick k).done n + 1 = (L.getD n default).E
        · refine .inr ⟨k + 1, ?_, by omega, by omega, by omega, ?_, fun t h1 h2 => by omega⟩
          · rw [hd.2, if_pos hfin, gI_set (by omega), if_pos rfl]; rfl
          · rw [hrun, Nat.add_sub_cancel, gI_last l3]
        · refine .inl ⟨?_, by omega⟩
          rw [hd.2, if_neg hfin]
          rcases p4 with h | ⟨f, q1, q2, q3, q4, _⟩
          · exact h.1
          · omega
      · rw [if_neg hni] at hdi
        have hfi : gI (simU L pick (k + 1)).fin i = gI (simU L pick k).fin i := by
          rw [hd.2]; split
          · rw [gI_set (by omega), if_neg hni]
          · rfl
        refine ⟨by omega, by omega, ?_, ?_⟩
        · rw [hdi, hrun, List.count_append, ← p3]
          rw [show List.count (i : Int) [(n : Int)] = 0 from by rw [List.count_eq_zero]; simp <;> omega]; try rfl
        · rw [hdi, hfi, hrun]
          rcases p4 with h | ⟨f, q1, q2, q3, q4, q5, q6⟩
          · exact .inl h
          · refine .inr ⟨f, q1, q2, by omega, q4, ?_, fun t h1 h2 => ?_⟩
            · rw [gI_app (by omega)]; exact q5
            · rcases Nat.lt_succ_iff_lt_or_eq.1 h2 with h' | rfl
              · rw [gI_app (by omega)]; exact q6 t h1 h'
              · rw [gI_last l3]; omega
end
end Go.Ds
/- The plain law: earliest deadline first: its choice; its past. Definitions in plain Lean; no program in sight. -/
namespace Go.Ds
theorem gI_row' {l : List Int} {k : Nat} (h : k < l.length) : gI l k = l[k] := by simp [gI, List.getD_eq_getElem?_getD, h]
theorem simU_done_neg {L : List Job} {pick : Nat → List Int → Int} {k : Nat} (h : pick k (simU L pick k).done < 0) : (simU L pick (k + 1)).done = (simU L pick k).done := by
  rw [simU_succ]; simp [tick, h]
theorem simU_done_pos {L : List Job} {pick : Nat → List Int → Int} {k n : Nat} (h : pick k (simU L pick k).done = n) : (simU L pick (k + 1)).done = (simU L pick k).done.set n (gI (simU L pick k).done n + 1) := by
  have hneg : ¬ (n : Int) < 0 := by omega
  rw [simU_succ]; simp [tick, h, hneg]
theorem choice {L : List Job} {key : Nat → Int} {pick : Nat → List Int → Int} (hp : ∀ now done, pick now done = bestF L.length (readyJ L done now) key) (hE : ∀ j ∈ L, 1 ≤ j.E) (k : Nat) (hk : k ≤ 200) :
    (pick k (simU L pick k).done = -1 ∧ ∀ j (hj : j < L.length) (hd : j < (simU L pick k).done.length), L[j].R ≤ k → (simU L pick k).done[j] = L[j].E) ∨
    ∃ n : Nat, ∃ hn : n < L.length, ∃ hd : n < (simU L pick k).done.length, pick k (simU L pick k).done = n ∧ (0 ≤ (simU L pick k).done[n] ∧ (simU L pick k).done[n] ≤ 200) ∧
      ∀ j (hj : j < L.length) (hd : j < (simU L pick k).done.length), L[j].R ≤ k → (simU L pick k).done[j] = L[j].E ∨ j = n ∨ (key n ≤ key j ∧ (j < n → key n < key j)) := by
  have hf : Fair L pick := fun now done => by rw [hp]; exact best_fair fun _ h => h
  have hlen := (simU_lens (L := L) (pick := pick) k).1
  have rdy : ∀ j (hj : j < L.length) (hd : j < (simU L pick k).done.length), L[j].R ≤ k → (simU L pick k).done[j] = L[j].E ∨ readyJ L (simU L pick k).done k j = true := by
    intro j hj hd hr
    have h1 := (runInv hf hE k j hj).le
    have gL : L.getD j default = L[j] := by simp [List.getD_eq_getElem?_getD, hj]
    rw [gL, gI_row' hd] at h1
    by_cases e : (simU L pick k).done[j] = L[j].E
    · exact .inl e
    · refine .inr ?_
      unfold readyJ
      rw [gL, gI_row' hd]
      exact decide_eq_true ⟨hr, by omega⟩
  rcases bestF_spec (readyJ L (simU L pick k).done k) key L.length with ⟨e, h⟩ | ⟨n, e, hn, hok, h1, h2⟩
  · refine .inl ⟨(hp _ _).trans e, fun j hj hd hr => ?_⟩
    rcases rdy j hj hd hr with h3 | h3
    · exact h3
    · rw [h j hj] at h3; cases h3
  · have hd : n < (simU L pick k).done.length := by omega
    have hb := sim_done (L := L) (pick := fun _ now done => (pick now done, ())) (s0 := ()) (fun _ now done => (hf.lt now done).2) k n hn
    change 0 ≤ gI (simU L pick k).done n ∧ gI (simU L pick k).done n ≤ k at hb
    rw [gI_row' hd] at hb
    refine .inr ⟨n, hn, hd, (hp _ _).trans e, ⟨hb.1, by omega⟩, fun j hj hdj hr => ?_⟩
    rcases rdy j hj hdj hr with h3 | h3
    · exact .inl h3
    · exact .inr (.inr ⟨h1 j hj h3, fun hjn => h2 j hjn h3⟩)
theorem bestF_cut {ok : Nat → Bool} {key : Nat → Int} {i : Nat} : ∀ {n : Nat}, i ≤ n → (∀ j, i ≤ j → j < n → ok j = false) → bestF n ok key = bestF i ok key
  | 0, h, _ => by rw [show i = 0 by omega]
  | n + 1, h, hh => by
    rcases Nat.lt_or_ge n i with h1 | h1
    · rw [show i = n + 1 by omega]
    · rw [bestF_succ, if_neg (fun g => by rw [hh n h1 (by omega)] at g; cases g.1)]
      exact bestF_cut h1 fun j h2 h3 => hh j h2 (by omega)
theorem bestF_congr' {ok ok' : Nat → Bool} {key key' : Nat → Int} : ∀ {n : Nat}, (∀ i, i < n → ok i = ok' i) → (∀ i, i < n → key i = key' i) → bestF n ok key = bestF n ok' key'
  | 0, _, _ => rfl
  | n + 1, h1, h2 => by
    have ih := bestF_congr' (n := n) (fun i hi => h1 i (by omega)) (fun i hi => h2 i (by omega))
    have hb := bestF_range ok' key' n
    rw [bestF_succ, bestF_succ, ih, h1 n (by omega), h2 n (by omega)]
    by_cases h0 : bestF n ok' key' < 0
    · simp [h0]
    · rw [h2 _ (show (bestF n ok' key').toNat < n + 1 by omega)]
theorem legal_R {S : List Task} {L : List Job} (h : jobsLegal S L) {i : Nat} : ∀ {j : Nat} (hj : j < L.length) (hij : i ≤ j), (L[i]'(by omega)).R ≤ L[j].R
  | 0, hj, hij => by simp [show i = 0 by omega]
  | j + 1, hj, hij => by
    rcases Nat.lt_or_ge i (j + 1) with h1 | h1
    · have ih := legal_R h (i := i) (j := j) (by omega) (by omega)
      have := (h.2.1.2 (j + 1) hj).2.2.2 (by omega)
      unfold before at this
      simp only [Nat.add_sub_cancel] at this
      omega
    · have : i = j + 1 := by omega
      subst this; exact Int.le_refl _
theorem past {S : List Task} {L : List Job} (h : jobsLegal S L) {i : Nat} (hi : i < L.length) : ∀ m : Nat, (m : Int) ≤ L[i].R → (∀ j, j < i → gI (simU L (edfPick L) m).done j = gI (simU (L.take i) (edfPick (L.take i)) m).done j) ∧
    ((m : Int) < L[i].R → edfPick L m (simU L (edfPick L) m).done = edfPick (L.take i) m (simU (L.take i) (edfPick (L.take i)) m).done) := by
  have hlt : (L.take i).length = i := by rw [List.length_take]; omega
  have gL : ∀ j, j < i → (L.take i).getD j default = L.getD j default := fun j hj => by simp [List.getD_eq_getElem?_getD, List.getElem?_take, hj]
  have pk : ∀ m : Nat, (m : Int) < L[i].R → (∀ j, j < i → gI (simU L (edfPick L) m).done j = gI (simU (L.take i) (edfPick (L.take i)) m).done j) → edfPick L m (simU L (edfPick L) m).done = edfPick (L.take i) m (simU (L.take i) (edfPick (L.take i)) m).done := by
    intro m hm hd
    unfold edfPick
    rw [bestF_cut (i := i) (by omega), hlt]
    · refine bestF_congr' (fun j hj => ?_) fun j hj => by rw [gL j hj]
      unfold readyJ
      rw [gL j hj]
      have e := hd j hj
      unfold edfPick readyJ at e
      rw [hlt] at e
      rw [e]
    · intro j h1 h2
      refine decide_eq_false fun hh => ?_
      have := legal_R h h2 h1
      rw [show L.getD j default = L[j] from by simp [List.getD_eq_getElem?_getD, h2]] at hh
      omega
  intro m
  induction m with
  | zero =>
    intro hm
    have h0 : ∀ j, j < i → gI (simU L (edfPick L) 0).done j = gI (simU (L.take i) (edfPick (L.take i)) 0).done j := fun j hj => by
      rw [show gI (simU L (edfPick L) 0).done j = 0 from gI_rep _ _ _ (by omega), show gI (simU (L.take i) (edfPick (L.take i)) 0).done j = 0 from gI_rep _ _ _ (by omega)]
    exact ⟨h0, fun hl => pk 0 hl h0⟩
  | succ m ih =>
    intro hm
    obtain ⟨ih1, ih2⟩ := ih (by omega)
    have e := ih2 (by omega)
    have hd : ∀ j, j < i → gI (simU L (edfPick L) (m + 1)).done j = gI (simU (L.take i) (edfPick (L.take i)) (m + 1)).done j := by
      intro j hj
      rcases edf_fair (L.take i) m (simU (L.take i) (edfPick (L.take i)) m).done with e1 | ⟨n, e1, hn, _⟩
      · rw [simU_done_neg (by omega), simU_done_neg (by omega)]; exact ih1 j hj
      · rw [simU_done_pos (e.trans e1), simU_done_pos e1, gI_set, gI_set, ih1 j hj, ih1 n (by omega)]
        · rw [(simU_lens m).1]; exact hn
        · rw [(simU_lens m).1]; omega
    exact ⟨hd, fun hl => pk (m + 1) hl hd⟩
end Go.Ds
/- The plain law: priority orders and their ranks. Definitions in plain Lean; no program in sight. -/
namespace Go.Ds
end Go.Ds
/- The plain law: jobs of the lowest priority do not disturb the others. Definitions in plain Lean; no program in sight. -/
namespace Go.Ds
section
variable {α : Type} (p : α → Bool)
def cnt (L : List α) (i : Nat) : Nat := ((L.take i).filter p).length
variable {p}
theorem cnt_yes {L : List α} {i : Nat} (h : i < L.length) (hp : p L[i] = true) : cnt p L (i + 1) = cnt p L i + 1 := by
  unfold cnt
  rw [List.take_succ_eq_append_getElem h, List.filter_append]; simp [hp]
theorem cnt_no {L : List α} {i : Nat} (h : i < L.length) (hp : p L[i] = false) : cnt p L (i + 1) = cnt p L i := by
  unfold cnt
  rw [List.take_succ_eq_append_getElem h, List.filter_append]; simp [hp]
theorem cnt_all (L : List α) : cnt p L L.length = (L.filter p).length := by unfold cnt; rw [List.take_length]
theorem cnt_mono {L : List α} {i : Nat} : ∀ {j : Nat}, i ≤ j → j ≤ L.length → cnt p L i ≤ cnt p L j
  | 0, h, _ => by rw [show i = 0 by omega]; exact Nat.le_refl _
  | j + 1, h, hj => by
    rcases Nat.lt_or_ge i (j + 1) with h1 | h1
    · have ih := cnt_mono (L := L) (i := i) (j := j) (by omega) (by omega)
      cases hp : p (L[j]'(by omega)) with
      | true => rw [cnt_yes (by omega) hp]; omega
      | false => rw [cnt_no (by omega) hp]; exact ih
    · rw [show i = j + 1 by omega]; exact Nat.le_refl _
theorem cnt_lt {L : List α} {i j : Nat} (hi : i < L.length) (hp : p L[i] = true) (hij : i < j) (hj : j ≤ L.length) : cnt p L i < cnt p L j := by
  have := cnt_mono (p := p) (L := L) (i := i + 1) hij hj
  rw [cnt_yes hi hp] at this; omega
theorem cnt_at {L : List α} {i : Nat} (hi : i < L.length) (hp : p L[i] = true) : ∃ h : cnt p L i < (L.filter p).length, (L.filter p)[cnt p L i] = L[i] := by
  have h1 : cnt p L i < (L.filter p).length := by rw [← cnt_all]; exact cnt_lt hi hp hi (Nat.le_refl _)
  refine ⟨h1, ?_⟩
  have e : L.filter p = (L.take i).filter p ++ L[i] :: (L.drop (i + 1)).filter p := by
    have : L = L.take i ++ L[i] :: L.drop (i + 1) := by rw [← List.drop_eq_getElem_cons hi, List.take_append_drop]
    conv => lhs; rw [this, List.filter_append]
    congr 1
    rw [List.filter_cons, if_pos hp]
  have : (L.filter p)[cnt p L i]? = some L[i] := by
    rw [e, List.getElem?_append_right (by unfold cnt; omega)]
    simp [cnt]
  rw [List.getElem?_eq_getElem h1] at this
  simpa using this
theorem cnt_surj {L : List α} : ∀ {m k : Nat}, m ≤ L.length → k < cnt p L m → ∃ i, ∃ h : i < L.length, i < m ∧ p L[i] = true ∧ cnt p L i = k
  | 0, k, _, h => by simp [cnt] at h
  | m + 1, k, hm, h => by
    cases hp : p (L[m]'(by omega)) with
    | true =>
      rw [cnt_yes (by omega) hp] at h
      rcases Nat.lt_succ_iff_lt_or_eq.1 h with h1 | h1
      · obtain ⟨i, hi, h2, h3, h4⟩ := cnt_surj (by omega) h1
        exact ⟨i, hi, by omega, h3, h4⟩
      · exact ⟨m, by omega, by omega, hp, h1.symm⟩
    | false =>
      rw [cnt_no (by omega) hp] at h
      obtain ⟨i, hi, h2, h3, h4⟩ := cnt_surj (by omega) h
      exact ⟨i, hi, by omega, h3, h4⟩
end
theorem best_unique {n : Nat} {ok : Nat → Bool} {key : Nat → Int} {k : Nat} (hk : k < n) (hok : ok k = true) (h1 : ∀ i, i < n → ok i = true → key k ≤ key i) (h2 : ∀ i, i < k → ok i = true → key k < key i) : bestF n ok key = k := by
  rcases bestF_spec ok key n with ⟨_, h⟩ | ⟨m, e, hm, hokm, g1, g2⟩
  · rw [h k hk] at hok; cases hok
  · rw [e]
    rcases Nat.lt_trichotomy m k with h3 | h3 | h3
    · have := h2 m h3 hokm; have := g1 k hk hok; omega
    · rw [h3]
    · have := g2 k h3 hok; have := h1 m hm hokm; omega
theorem best_none {n : Nat} {ok : Nat → Bool} {key : Nat → Int} (h : ∀ i, i < n → ok i = false) : bestF n ok key = -1 := by
  rcases bestF_spec ok key n with ⟨e, _⟩ | ⟨m, e, hm, hokm, _⟩
  · exact e
  · rw [h m hm] at hokm; cases hokm
theorem simU_fin_pos {L : List Job} {pick : Nat → List Int → Int} {k n : Nat} (h : pick k (simU L pick k).done = n) : (simU L pick (k + 1)).fin = if gI (simU L pick k).done n + 1 = (L.getD n default).E then (simU L pick k).fin.set n (k + 1) else (simU L pick k).fin := by
  have hneg : ¬ (n : Int) < 0 := by omega
  rw [simU_succ]; simp [tick, h, hneg]
theorem simU_fin_neg {L : List Job} {pick : Nat → List Int → Int} {k : Nat} (h : pick k (simU L pick k).done < 0) : (simU L pick (k + 1)).fin = (simU L pick k).fin := by
  rw [simU_succ]; simp [tick, h]
theorem kept {L : List Job} {p : Job → Bool} {key : Job → Int} {pick pick' : Nat → List Int → Int} (hp : ∀ now done, pick now done = bestF L.length (readyJ L done now) fun i => key (L.getD i default))
    (hp' : ∀ now done, pick' now done = bestF (L.filter p).length (readyJ (L.filter p) done now) fun i => key ((L.filter p).getD i default)) (hkey : ∀ a ∈ L, ∀ b ∈ L, p a = true → p b = false → key a < key b) :
    ∀ (m i : Nat) (hi : i < L.length), p L[i] = true → gI (simU L pick m).done i = gI (simU (L.filter p) pick' m).done (cnt p L i) ∧ gI (simU L pick m).fin i = gI (simU (L.filter p) pick' m).fin (cnt p L i)
  | 0, i, hi, hpi => by
    obtain ⟨h1, _⟩ := cnt_at hi hpi
    rw [show gI (simU L pick 0).done i = 0 from gI_rep _ _ _ hi, show gI (simU (L.filter p) pick' 0).done (cnt p L i) = 0 from gI_rep _ _ _ h1, show gI (simU L pick 0).fin i = -1 from gI_rep _ _ _ hi, show gI (simU (L.filter p) pick' 0).fin (cnt p L i) = -1 from gI_rep _ _ _ h1]
    exact ⟨rfl, rfl⟩
  | m + 1, i, hi, hpi => by
    have ih := kept hp hp' hkey m
    obtain ⟨h1, h2⟩ := cnt_at hi hpi
    have gL : ∀ j (hj : j < L.length), L.getD j default = L[j] := fun j hj => by simp [List.getD_eq_getElem?_getD, hj]
    have gF : ∀ j (hj : j < (L.filter p).length), (L.filter p).getD j default = (L.filter p)[j] := fun j hj => by simp [List.getD_eq_getElem?_getD, hj]
    have ready : ∀ j (hj : j < L.length), p L[j] = true → readyJ L (simU L pick m).done m j = readyJ (L.filter p) (simU (L.filter p) pick' m).done m (cnt p L j) := by
      intro j hj hpj
      obtain ⟨g1, g2⟩ := cnt_at hj hpj
      unfold readyJ
      rw [gL j hj, gF _ g1, g2, (ih j hj hpj).1]
    have l1 := simU_lens (L := L) (pick := pick) m
    have l2 := simU_lens (L := L.filter p) (pick := pick') m
    rcases bestF_spec (readyJ L (simU L pick m).done m) (fun i => key (L.getD i default)) L.length with ⟨e, h⟩ | ⟨n, e, hn, hok, b1, b2⟩
    · -- none is ready
      have e1 := (hp m (simU L pick m).done).trans e
      have e2 : pick' m (simU (L.filter p) pick' m).done = -1 := by
        rw [hp']
        refine best_none fun k hk => ?_
        obtain ⟨j, hj, _, hpj, rfl⟩ := cnt_surj (p := p) (L := L) (Nat.le_refl _) (by rw [cnt_all]; exact hk)
        rw [← ready j hj hpj]; exact h j hj
      rw [simU_done_neg (by omega), simU_fin_neg (by omega), simU_done_neg (by omega), simU_fin_neg (by omega)]
      exact ih i hi hpi
    · have e1 := (hp m (simU L pick m).done).trans e
      cases hpn : p L[n] with
      | true =>
        obtain ⟨g1, g2⟩ := cnt_at hn hpn
        have e2 : pick' m (simU (L.filter p) pick' m).done = (cnt p L n : Nat) := by
          rw [hp']
          refine best_unique g1 (by rw [← ready n hn hpn]; exact hok) (fun k hk hrk => ?_) fun k hk hrk => ?_
          · obtain ⟨j, hj, _, hpj, rfl⟩ := cnt_surj (p := p) (L := L) (Nat.le_refl _) (by rw [cnt_all]; exact hk)
            obtain ⟨g3, g4⟩ := cnt_at hj hpj
            rw [gF _ g1, gF _ g3, g2, g4, ← gL n hn, ← gL j hj]
            exact b1 j hj (by rw [ready j hj hpj]; exact hrk)
          · obtain ⟨j, hj, _, hpj, rfl⟩ := cnt_surj (p := p) (L := L) (Nat.le_refl _) (show k < cnt p L L.length by rw [cnt_all]; omega)
            obtain ⟨g3, g4⟩ := cnt_at hj hpj
            have hjn : j < n := by
              rcases Nat.lt_or_ge j n with h3 | h3
              · exact h3
              · have := cnt_mono (p := p) h3 (by omega : j ≤ L.length); omega
            rw [gF _ g1, gF _ g3, g2, g4, ← gL n hn, ← gL j hj]
            exact b2 j hjn (by rw [ready j hj hpj]; exact hrk)
        have en := (ih n hn hpn).1
        have ei := ih i hi hpi
        rw [simU_done_pos e1, simU_fin_pos e1, simU_done_pos e2, simU_fin_pos e2, gI_set (by omega), gI_set (by omega), gL n hn, gF _ g1, g2, ← en]
        have hinj : n = i ↔ cnt p L n = cnt p L i := by
          constructor
          · rintro rfl; rfl
          · intro hc
            rcases Nat.lt_trichotomy n i with h3 | h3 | h3
            · have := cnt_lt hn hpn h3 (by omega); omega
            · exact h3
            · have := cnt_lt hi hpi h3 (by omega); omega
        by_cases h3 : n = i
        · have h4 := hinj.1 h3
          subst h3
          refine ⟨by simp, ?_⟩
          split
          · rw [gI_set (by omega), gI_set (by omega)]; simp
          · exact ei.2
        · have h4 : ¬ cnt p L n = cnt p L i := fun hc => h3 (hinj.2 hc)
          refine ⟨by rw [if_neg h3, if_neg h4]; exact ei.1, ?_⟩
          split
          · rw [gI_set (by omega), gI_set (by omega), if_neg h3, if_neg h4]; exact ei.2
          · exact ei.2
      | false =>
        have e2 : pick' m (simU (L.filter p) pick' m).done = -1 := by
          rw [hp']
          refine best_none fun k hk => ?_
          obtain ⟨j, hj, _, hpj, rfl⟩ := cnt_surj (p := p) (L := L) (Nat.le_refl _) (by rw [cnt_all]; exact hk)
          rw [← ready j hj hpj]
          cases hr : readyJ L (simU L pick m).done m j with
          | false => rfl
          | true =>
            have := b1 j hj hr
            rw [gL n hn, gL j hj] at this
            have := hkey _ (List.getElem_mem hj) _ (List.getElem_mem hn) hpj hpn
            omega
        have hni : n ≠ i := fun h3 => by subst h3; rw [hpi] at hpn; cases hpn
        have ei := ih i hi hpi
        rw [simU_done_pos e1, simU_fin_pos e1, simU_done_neg (by omega), simU_fin_neg (by omega), gI_set (by omega), if_neg hni]
        refine ⟨ei.1, ?_⟩
        split
        · rw [gI_set (by omega), if_neg hni]; exact ei.2
        · exact ei.2
end Go.Ds
/- The plain law: legal release patterns with jitter and without. Definitions in plain Lean; no program in sight. -/
namespace Go.Ds
end Go.Ds
/- The plain law: earliest deadline first misses no deadline that any schedule meets. Definitions in plain Lean; no program in sight. -/
namespace Go.Ds
def sumI (f : Nat → Int) : Nat → Int
  | 0 => 0
  | n + 1 => sumI f n + f n
def free (A : Nat → Bool) (a : Nat) : Nat → Int
  | 0 => 0
  | m + 1 => free A a m + if A (a + m) then 1 else 0
def Only (A : Nat → Bool) (pick : Nat → List Int → Int) : Prop := ∀ now done, A now = false → pick now done = -1
section
variable {L : List Job} {pick : Nat → List Int → Int}
end
def EdfOn (A : Nat → Bool) (L : List Job) (pick : Nat → List Int → Int) : Prop := ∀ now done, pick now done = if A now = true then edfPick L now done else -1
theorem EdfOn.only {A : Nat → Bool} {L : List Job} {pick : Nat → List Int → Int} (h : EdfOn A L pick) : Only A pick := fun now done hA => by rw [h, if_neg (by simp [hA])]
theorem least {Q : Nat → Prop} : ∀ m : Nat, Q m → ∃ a, a ≤ m ∧ Q a ∧ (a = 0 ∨ ¬ Q (a - 1))
  | 0, h => ⟨0, Nat.le_refl _, h, .inl rfl⟩
  | m + 1, h => by
    by_cases h1 : Q m
    · obtain ⟨a, h2, h3⟩ := least m h1
      exact ⟨a, by omega, h3⟩
    · exact ⟨m + 1, Nat.le_refl _, h, .inr h1⟩
end Go.Ds
/- The plain law: response times with jitter under fixed priorities are safe. Definitions in plain Lean; no program in sight. -/
namespace Go.Ds
end Go.Ds
/- The plain law: checking a schedule. Definitions in plain Lean; no program in sight. -/
namespace Go.Ds
def lateNow (L : List Job) (now : Nat) (done : List Int) : Bool := (List.range L.length).any fun i => decide ((L.getD i default).D = now + 1 ∧ gI done i < (L.getD i default).E)
def tickDone (done : List Int) (e : Int) : List Int := if 0 ≤ e then done.set e.toNat (gI done e + 1) else done
def chkCode (L : List Job) (now : Nat) (done : List Int) (e : Int) : Int :=
  if e ≠ -1 ∧ ¬ ((0 ≤ e ∧ e ≤ (L.length : Int) - 1) ∧ readyJ L done now e.toNat = true) then 3
  else if e = -1 ∧ 0 ≤ edfPick L now done then 4
  else if 0 ≤ e ∧ (L.getD (edfPick L now done).toNat default).D < (L.getD e.toNat default).D then 5
  else if lateNow L now (tickDone done e) = true then 6 else 0
def chkDone (L : List Job) (run : List Int) : Nat → List Int
  | 0 => List.replicate L.length 0
  | k + 1 => tickDone (chkDone L run k) (gI run k)
def codeAt (L : List Job) (run : List Int) (k : Nat) : Int := chkCode L k (chkDone L run k) (gI run k)
def ChkP (L : List Job) (run : List Int) (c a : Int) : Prop := (c = 0 ∧ a = 0 ∧ ∀ t, t < 120 → codeAt L run t = 0) ∨ ∃ t : Nat, t < 120 ∧ c = codeAt L run t ∧ c ≠ 0 ∧ a = t ∧ ∀ u, u < t → codeAt L run u = 0
theorem ChkP.same {L : List Job} {run : List Int} {c a c' a' : Int} (h : ChkP L run c a) (h' : ChkP L run c' a') : c = c' ∧ a = a' := by
  rcases h with ⟨h1, h2, h3⟩ | ⟨t, h1, h2, h3, h4, h5⟩ <;> rcases h' with ⟨g1, g2, g3⟩ | ⟨u, g1, g2, g3, g4, g5⟩
  · omega
  · exact absurd (g2.trans (h3 u g1)) g3
  · exact absurd (h2.trans (g3 t h1)) h3
  · rcases Nat.lt_trichotomy t u with h | h | h
    · exact absurd (h2.trans (g5 t h)) h3
    · subst h; exact ⟨by omega, by omega⟩
    · exact absurd (g2.trans (h5 u h)) g3
def ChkR (S : List Task) (L : List Job) (run : List Int) (c a : Int) : Prop := (¬ jobsLegal S L ∧ c = 1 ∧ a = 0) ∨ (jobsLegal S L ∧ run.length ≠ 120 ∧ c = 2 ∧ a = 0) ∨ (jobsLegal S L ∧ run.length = 120 ∧ ChkP L run c a)
theorem ChkR.same {S : List Task} {L : List Job} {run : List Int} {c a c' a' : Int} (h : ChkR S L run c a) (h' : ChkR S L run c' a') : c = c' ∧ a = a' := by
  rcases h with ⟨h1, h2, h3⟩ | ⟨h1, h2, h3, h4⟩ | ⟨h1, h2, h3⟩ <;> rcases h' with ⟨g1, g2, g3⟩ | ⟨g1, g2, g3, g4⟩ | ⟨g1, g2, g3⟩
  · exact ⟨by omega, by omega⟩
  · exact absurd g1 h1
  · exact absurd g1 h1
  · exact absurd h1 g1
  · exact ⟨by omega, by omega⟩
  · exact absurd g2 h2
  · exact absurd h1 g1
  · exact absurd h2 g2
  · exact h3.same g3
theorem chkCode_range (L : List Job) (now : Nat) (done : List Int) (e : Int) : chkCode L now done e = 0 ∨ (3 ≤ chkCode L now done e ∧ chkCode L now done e ≤ 6) := by
  unfold chkCode
  split
  · omega
  · split
    · omega
    · split
      · omega
      · split <;> omega
theorem ChkR.range {S : List Task} {L : List Job} {run : List Int} {c a : Int} (h : ChkR S L run c a) : (c = 0 ∨ (1 ≤ c ∧ c ≤ 6)) ∧ 0 ≤ a ∧ a < 120 ∧ (c = 0 → a = 0) := by
  rcases h with ⟨h1, h2, h3⟩ | ⟨h1, h2, h3, h4⟩ | ⟨h1, h2, ⟨h3, h4, h5⟩ | ⟨t, h3, h4, h5, h6, h7⟩⟩
  · omega
  · omega
  · omega
  · have : c = chkCode _ _ _ _ := h4
    rcases chkCode_range L t (chkDone L run t) (gI run t) with e | e <;> omega
end Go.Ds
/- The plain law: the demand bound, and that a feasible set misses no deadline. Definitions in plain Lean; no program in sight. -/
namespace Go.Ds
def dbf1 (x : Task) (t : Int) : Int := if x.D ≤ t then ((t - x.D) / x.P + 1) * x.C else 0
def dbf (S : List Task) (t : Int) : Int := S.foldl (fun acc x => acc + dbf1 x t) 0
def dbfN (S : List Task) (t : Int) (m : Nat) : Int := sumI (fun k => dbf1 (gT S k) t) m
theorem dbf_foldl (t : Int) : ∀ (S : List Task) (a : Int), S.foldl (fun acc x => acc + dbf1 x t) a = a + S.foldl (fun acc x => acc + dbf1 x t) 0
  | [], a => by simp
  | x :: S, a => by
    simp only [List.foldl_cons]
    rw [dbf_foldl t S (a + dbf1 x t), dbf_foldl t S (0 + dbf1 x t)]; omega
theorem dbf_snoc (S : List Task) (x : Task) (t : Int) : dbf (S ++ [x]) t = dbf S t + dbf1 x t := by
  unfold dbf; rw [List.foldl_append]; rfl
theorem dbf_take (S : List Task) (t : Int) : ∀ m, m ≤ S.length → dbf (S.take m) t = dbfN S t m
  | 0, _ => rfl
  | m + 1, h => by
    rw [List.take_succ_eq_append_getElem (show m < S.length by omega), dbf_snoc, dbf_take S t m (by omega)]
    unfold dbfN
    simp only [sumI]
    rw [gT_nat (show m < S.length by omega)]
theorem dbf1_bound {x : Task} (h : x.ok) {t : Int} (ht : 0 ≤ t) : 0 ≤ dbf1 x t ∧ dbf1 x t ≤ (t + 1) * 8 := by
  unfold Task.ok at h
  unfold dbf1
  split
  · have h1 : 0 ≤ (t - x.D) / x.P := Int.ediv_nonneg (by omega) (by omega)
    have h2 : (t - x.D) / x.P ≤ t - x.D := Int.ediv_le_self _ (by omega)
    constructor
    · exact Int.mul_nonneg (by omega) (by omega)
    · refine Int.le_trans (Int.mul_le_mul_of_nonneg_right (show (t - x.D) / x.P + 1 ≤ t + 1 by omega) (by omega)) ?_
      exact Int.mul_le_mul_of_nonneg_left (by omega) (by omega)
  · exact ⟨Int.le_refl _, Int.mul_nonneg (by omega) (by omega)⟩
theorem dbfN_bound {S : List Task} (h : setOk S) {t : Int} (ht : 0 ≤ t) : ∀ m, m ≤ S.length → 0 ≤ dbfN S t m ∧ dbfN S t m ≤ (t + 1) * 8 * m
  | 0, _ => by simp [dbfN, sumI]
  | m + 1, hm => by
    obtain ⟨h1, h2⟩ := dbfN_bound h ht m (by omega)
    obtain ⟨h3, h4⟩ := dbf1_bound (gT_ok h (show (0:Int) ≤ (m:Int) by omega) (by omega)) ht
    unfold dbfN at h1 h2 ⊢
    simp only [sumI]
    rw [show ((m + 1 : Nat) : Int) = (m : Int) + 1 by omega, Int.mul_add, Int.mul_one]
    omega
end Go.Ds
