/- The plain law: priority orders and response times. Definitions in plain Lean; no program in sight. -/
import Derived.Test.YtgnlibnnpipbhaaM1
namespace Go.Ds

def ordOk (S : List Task) (O : List Int) : Prop := setOk S ∧ O.length = S.length ∧ (∀ k ∈ O, 0 ≤ k ∧ k < S.length) ∧ O.Nodup
instance (S : List Task) (O : List Int) : Decidable (ordOk S O) := by unfold ordOk; infer_instance

theorem nodup_take_succ {α : Type} {O : List α} {k : Nat} (h : k < O.length) : (O.take (k + 1)).Nodup ↔ (O.take k).Nodup ∧ O[k] ∉ O.take k := by
  rw [List.take_succ_eq_append_getElem h, List.nodup_append]
  simp only [List.mem_singleton, ne_eq]
  constructor
  · rintro ⟨h1, _, h3⟩
    exact ⟨h1, fun hm => h3 _ hm _ rfl rfl⟩
  · rintro ⟨h1, h2⟩
    exact ⟨h1, by simp, fun a ha b hb e => h2 (by rw [← hb, ← e]; exact ha)⟩

/-- The first place of an element is its own if it did not come before. -/
theorem idxF_own {O : List Int} {k : Nat} (h : k < O.length) : idxF (fun x => decide (x = O[k])) O = k ↔ O[k] ∉ O.take k := by
  constructor
  · intro he hm
    obtain ⟨j, hj, e⟩ := List.mem_take_iff_getElem.1 hm
    unfold idxF at he
    split at he
    · rename_i i hi
      have hik : i = k := by omega
      rw [List.findIdx?_eq_some_iff_getElem] at hi
      obtain ⟨_, _, hn⟩ := hi
      exact hn j (by omega) (by simpa using e)
    · omega
  · intro hm
    refine idxF_found h (fun x hx => ?_) (by simp)
    simp only [decide_eq_false_iff_not]
    rintro rfl
    exact hm hx

theorem idxF_mem {O : List Int} {x : Int} : 0 ≤ idxF (fun y => decide (y = x)) O ↔ x ∈ O := by
  rw [idxF_any]
  simp

def gT (S : List Task) (k : Int) : Task := S.getD k.toNat default
def gI (J : List Int) (k : Int) : Int := J.getD k.toNat 0

/-- The work that a task and those above it may ask for in a window of length r. -/
def nxt (S : List Task) (J : List Int) (A : List Int) (c r : Int) : Int := A.foldl (fun acc k => acc + (r + gI J k + (gT S k).P - 1) / (gT S k).P * (gT S k).C) c

/-- The response time of task i below A, by iteration. -/
def resp (S : List Task) (J : List Int) (A : List Int) (i : Int) : Nat → Int → Int
  | 0, _ => -1
  | f + 1, r => if r + gI J i ≤ (gT S i).D then if nxt S J A (gT S i).C r = r then r + gI J i else resp S J A i f (nxt S J A (gT S i).C r) else -1

def respOf (S : List Task) (J : List Int) (A : List Int) (i : Int) : Int := resp S J A i 20 (gT S i).C

/-- The response times of all tasks: the order's tasks one by one. -/
def resps (S : List Task) (J : List Int) (O : List Int) : Nat → List Int
  | 0 => List.replicate S.length 0
  | k + 1 => (resps S J O k).set (O.getD k 0).toNat (respOf S J (O.take k) (O.getD k 0))

theorem resps_length (S : List Task) (J : List Int) (O : List Int) : ∀ k, (resps S J O k).length = S.length
  | 0 => by simp [resps]
  | k + 1 => by rw [resps, List.length_set]; exact resps_length S J O k

theorem nxt_nil (S : List Task) (J : List Int) (c r : Int) : nxt S J [] c r = c := rfl
theorem nxt_append (S : List Task) (J A : List Int) (k c r : Int) : nxt S J (A ++ [k]) c r = nxt S J A c r + (r + gI J k + (gT S k).P - 1) / (gT S k).P * (gT S k).C := by simp [nxt]

structure Inst (S : List Task) (J A : List Int) (i : Int) : Prop where
  hS : setOk S
  hJ : jitOk S J
  hA : ∀ k ∈ A, 0 ≤ k ∧ k < S.length
  hi : 0 ≤ i ∧ i < S.length
  hl : A.length ≤ 5

theorem gT_eq {S : List Task} {k : Int} (h : k.toNat < S.length) : gT S k = S[k.toNat] := by simp [gT, List.getD_eq_getElem?_getD, h]
theorem gI_eq {J : List Int} {k : Int} (h : k.toNat < J.length) : gI J k = J[k.toNat] := by simp [gI, List.getD_eq_getElem?_getD, h]
theorem gT_ok {S : List Task} {k : Int} (hS : setOk S) (h0 : 0 ≤ k) (h : k < S.length) : (gT S k).ok := by
  have hk : k.toNat < S.length := by omega
  rw [gT_eq hk]; exact hS.2 _ (List.getElem_mem hk)
theorem gI_ok {S : List Task} {J : List Int} {k : Int} (hJ : jitOk S J) (h0 : 0 ≤ k) (h : k < S.length) : 0 ≤ gI J k ∧ gI J k ≤ 12 := by
  have hk : k.toNat < S.length := by omega
  have hj : k.toNat < J.length := by have := hJ.2.1; omega
  have h1 := hJ.2.2 _ (mem_zip_at hk hj)
  have h2 := hJ.1.2 _ (List.getElem_mem hk)
  unfold Task.ok at h2
  rw [gI_eq hj]
  simp only at h1
  omega

/-- What one task above asks for. -/
def ask (S : List Task) (J : List Int) (r k : Int) : Int := (r + gI J k + (gT S k).P - 1) / (gT S k).P * (gT S k).C

theorem ask_bounds {S : List Task} {J : List Int} {r k : Int} (hS : setOk S) (hJ : jitOk S J) (h0 : 0 ≤ k) (h : k < S.length) (hr : 0 ≤ r) (hr2 : r ≤ 100) :
    (0 ≤ (r + gI J k + (gT S k).P - 1) / (gT S k).P ∧ (r + gI J k + (gT S k).P - 1) / (gT S k).P ≤ 130) ∧ 0 ≤ ask S J r k ∧ ask S J r k ≤ 1040 := by
  have h1 := gT_ok hS h0 h
  have h2 := gI_ok hJ h0 h
  unfold Task.ok at h1
  have q1 : 0 ≤ (r + gI J k + (gT S k).P - 1) / (gT S k).P := Int.ediv_nonneg (by omega) (by omega)
  have q2 : (r + gI J k + (gT S k).P - 1) / (gT S k).P ≤ r + gI J k + (gT S k).P - 1 := Int.ediv_le_self _ (by omega)
  have q3 : (r + gI J k + (gT S k).P - 1) / (gT S k).P ≤ 130 := by omega
  refine ⟨⟨q1, q3⟩, Int.mul_nonneg q1 (by omega), ?_⟩
  unfold ask
  calc (r + gI J k + (gT S k).P - 1) / (gT S k).P * (gT S k).C ≤ 130 * 8 := Int.mul_le_mul q3 (by omega) (by omega) (by omega)
    _ ≤ 1040 := by decide

theorem nxt_bounds {S : List Task} {J : List Int} {r c : Int} (hS : setOk S) (hJ : jitOk S J) (hr : 0 ≤ r) (hr2 : r ≤ 100) : ∀ (A : List Int) (c : Int), (∀ k ∈ A, 0 ≤ k ∧ k < S.length) → c ≤ nxt S J A c r ∧ nxt S J A c r ≤ c + 1040 * A.length
  | [], c, _ => by simp [nxt]
  | k :: A, c, h => by
    have hk := h k (by simp)
    have h1 := (ask_bounds hS hJ hk.1 hk.2 hr hr2).2
    have h2 := nxt_bounds (r := r) (c := c) hS hJ hr hr2 A (c + ask S J r k) fun x hx => h x (by simp [hx])
    have e : nxt S J (k :: A) c r = nxt S J A (c + ask S J r k) r := rfl
    rw [e, List.length_cons]
    push_cast
    omega

theorem ask_mono {S : List Task} {J : List Int} {r r' k : Int} (hS : setOk S) (h0 : 0 ≤ k) (h : k < S.length) (hr : r ≤ r') : ask S J r k ≤ ask S J r' k := by
  have h1 := gT_ok hS h0 h
  unfold Task.ok at h1
  exact Int.mul_le_mul_of_nonneg_right (Int.ediv_le_ediv (by omega) (by omega)) (by omega)

theorem nxt_mono {S : List Task} {J : List Int} {r r' : Int} (hS : setOk S) (hr : r ≤ r') : ∀ (A : List Int) (c c' : Int), c ≤ c' → (∀ k ∈ A, 0 ≤ k ∧ k < S.length) → nxt S J A c r ≤ nxt S J A c' r'
  | [], c, c', hc, _ => hc
  | k :: A, c, c', hc, h => by
    have hk := h k (by simp)
    have := ask_mono (J := J) hS hk.1 hk.2 hr
    exact nxt_mono hS hr A (c + ask S J r k) (c' + ask S J r' k) (by omega) fun x hx => h x (by simp [hx])

/-- A state of the iteration. -/
def Step (S : List Task) (J A : List Int) (i r : Int) : Prop :=
  (gT S i).C ≤ r ∧ r ≤ 6000 ∧ (r ≤ 100 → r ≤ nxt S J A (gT S i).C r) ∧ ∃ f : Nat, resp S J A i f r = respOf S J A i ∧ 20 + (gT S i).C ≤ f + r

theorem Step.first {S : List Task} {J A : List Int} {i : Int} (h : Inst S J A i) : Step S J A i (gT S i).C := by
  have h1 := gT_ok h.hS h.hi.1 h.hi.2
  unfold Task.ok at h1
  refine ⟨by omega, by omega, fun _ => (nxt_bounds (c := 0) h.hS h.hJ (by omega) (by omega) A _ h.hA).1, 20, rfl, by omega⟩

theorem Step.go {S : List Task} {J A : List Int} {i r : Int} (h : Inst S J A i) (hs : Step S J A i r) (hle : r + gI J i ≤ (gT S i).D) :
    (0 ≤ r ∧ r ≤ 12) ∧ (nxt S J A (gT S i).C r = r → respOf S J A i = r + gI J i) ∧ (nxt S J A (gT S i).C r ≠ r → Step S J A i (nxt S J A (gT S i).C r) ∧ r < nxt S J A (gT S i).C r) := by
  have h1 := gT_ok h.hS h.hi.1 h.hi.2
  have h2 := gI_ok h.hJ h.hi.1 h.hi.2
  unfold Task.ok at h1
  obtain ⟨a1, a2, a3, f, hf, hfr⟩ := hs
  have hr : 0 ≤ r ∧ r ≤ 12 := by omega
  obtain ⟨f', rfl⟩ : ∃ f', f = f' + 1 := ⟨f - 1, by omega⟩
  simp only [resp, hle, if_true] at hf
  have hb := nxt_bounds (c := 0) h.hS h.hJ hr.1 (by omega) A (gT S i).C h.hA
  have hl := h.hl
  refine ⟨hr, fun e => ?_, fun e => ?_⟩
  · rw [if_pos e] at hf; exact hf.symm
  · rw [if_neg e] at hf
    have hlt : r < nxt S J A (gT S i).C r := by have := a3 (by omega); omega
    refine ⟨⟨hb.1, by omega, fun _ => nxt_mono h.hS (by omega) A _ _ (by omega) h.hA, f', hf, by omega⟩, hlt⟩

theorem Step.stop {S : List Task} {J A : List Int} {i r : Int} (hs : Step S J A i r) (hle : ¬ r + gI J i ≤ (gT S i).D) : respOf S J A i = -1 := by
  obtain ⟨_, _, _, f, hf, _⟩ := hs
  cases f with
  | zero => exact hf.symm
  | succ f => simp only [resp, hle, if_false] at hf; exact hf.symm
end Go.Ds
