import Derived.Test.YtfngcejaphhmmaaGreatDoorMM
import Derived.Lib.ItoaNum
import Derived.Lib.Atoi
import Derived.Lib.SplitLaws
namespace Go.Ds
open Go
/-! ### the fields of a line -/
def fields : List UInt8 → List (List UInt8)
  | [] => [[]]
  | c :: l => if c = 32 then [] :: fields l else match fields l with
    | [] => [[c]]
    | a :: r => (c :: a) :: r
theorem fields_ne : ∀ l, fields l ≠ []
  | [] => by simp [fields]
  | c :: l => by
    unfold fields
    split
    · simp
    · split <;> simp
def consW (w : List UInt8) : List (List UInt8) → List (List UInt8)
  | [] => [w]
  | a :: r => (w ++ a) :: r
theorem consW_nil (f : List (List UInt8)) (h : f ≠ []) : consW [] f = f := by cases f <;> simp_all [consW]
theorem fields_sep (l : List UInt8) : fields (32 :: l) = [] :: fields l := by simp [fields]
theorem fields_chr {c : UInt8} (h : c ≠ 32) (l : List UInt8) : fields (c :: l) = consW [c] (fields l) := by
  rw [fields, if_neg h]
  have := fields_ne l
  cases hf : fields l with
  | nil => exact absurd hf this
  | cons a r => rfl
theorem consW_consW (a b : List UInt8) : ∀ f, consW a (consW b f) = consW (a ++ b) f
  | [] => rfl
  | c :: r => by simp [consW]
def joinS : List (List UInt8) → List UInt8
  | [] => []
  | [a] => a
  | a :: b :: r => a ++ 32 :: joinS (b :: r)
theorem joinS_cons (a : List UInt8) {r : List (List UInt8)} (h : r ≠ []) : joinS (a :: r) = a ++ 32 :: joinS r := by
  cases r with
  | nil => exact absurd rfl h
  | cons b r => rfl
theorem joinS_consW (w : List UInt8) : ∀ (f : List (List UInt8)), f ≠ [] → joinS (consW w f) = w ++ joinS f
  | [], h => absurd rfl h
  | [a], _ => rfl
  | a :: b :: r, _ => by simp [consW, joinS]
theorem join_fields : ∀ l, joinS (fields l) = l
  | [] => rfl
  | c :: l => by
    by_cases h : c = 32
    · subst h
      rw [fields_sep, joinS_cons _ (fields_ne l), join_fields l]; rfl
    · rw [fields_chr h, joinS_consW _ _ (fields_ne l), join_fields l]; rfl
theorem fields_word : ∀ (a : List UInt8), (32 : UInt8) ∉ a → fields a = [a]
  | [], _ => rfl
  | c :: a, h => by
    have hc : c ≠ 32 := fun e => h (by simp [e])
    rw [fields_chr hc, fields_word a fun e => h (by simp [e])]; rfl
theorem fields_words : ∀ (a r : List UInt8), (32 : UInt8) ∉ a → fields (a ++ 32 :: r) = a :: fields r
  | [], r, _ => fields_sep r
  | c :: a, r, h => by
    have hc : c ≠ 32 := fun e => h (by simp [e])
    rw [List.cons_append, fields_chr hc, fields_words a r fun e => h (by simp [e])]; rfl
/-! ### the library's split -/
theorem index_head (c : UInt8) (l : List UInt8) : Lib.index (c :: l) [c] = 0 := by simp [Lib.index, List.isPrefixOf]
theorem index_tail {a c : UInt8} (h : a ≠ c) (l : List UInt8) : Lib.index (a :: l) [c] = if Lib.index l [c] = -1 then -1 else Lib.index l [c] + 1 := by
  have h1 : (c == a) = false := by simpa using fun e : c = a => h e.symm
  simp [Lib.index, List.isPrefixOf, h1]
theorem split_fields : ∀ (l : List UInt8), Lib.splitK [32] 0 (Lib.count l [32]) l = fields l
  | [] => by
    have : Lib.count [] [(32 : UInt8)] = 0 := by rw [Lib.count_one]; rfl
    rw [this]; rfl
  | a :: l => by
    have ih := split_fields l
    by_cases h : a = 32
    · subst h
      rw [Lib.count_cons_eq, Nat.add_comm, Lib.splitK, index_head, if_neg (by decide), fields_sep, ← ih]
      simp
    · rw [Lib.count_cons_ne _ _ _ h, fields_chr h, ← ih]
      cases hk : Lib.count l [32] with
      | zero => rfl
      | succ k =>
        rw [Lib.splitK, Lib.splitK, index_tail h]
        have hi := Lib.index_ge l [32]
        by_cases hm : Lib.index l [32] = -1
        · simp [hm, consW]
        · obtain ⟨i, e⟩ : ∃ i : Nat, Lib.index l [32] = i := ⟨(Lib.index l [32]).toNat, by omega⟩
          rw [e]
          have h1 : ¬ ((i : Int) = -1) := by omega
          have h2 : ((i : Int) + 1).toNat = i + 1 := by omega
          have h3 : ¬ (((i : Int) + 1 == -1) = true) := fun e => by have := beq_iff_eq.1 e; omega
          have h4 : ¬ (((i : Int) == -1) = true) := fun e => by have := beq_iff_eq.1 e; omega
          rw [if_neg h1, if_neg h3, if_neg h4, h2]
          simp [consW]
/-! ### numbers -/
theorem dec_digit : ∀ (n : Nat), ∀ b ∈ Lib.decDigits n, 48 ≤ b.toNat ∧ b.toNat ≤ 57 := by
  intro n
  induction n using Nat.strongRecOn with
  | _ n ih =>
    intro b hb
    rw [Lib.decDigits] at hb
    split at hb
    · rw [List.mem_singleton] at hb
      subst hb
      rw [UInt8.toNat_ofNat']
      omega
    · rcases List.mem_append.1 hb with h | h
      · exact ih (n / 10) (by omega) b h
      · rw [List.mem_singleton] at h
        subst h
        rw [UInt8.toNat_ofNat']
        omega
theorem dec_ne (n : Nat) : Lib.decDigits n ≠ [] := by
  rw [Lib.decDigits]
  split <;> simp
theorem dec_nosp (n : Nat) : (32 : UInt8) ∉ Lib.decDigits n := fun h => by
  have := dec_digit n _ h
  revert this
  decide
def valD (l : List UInt8) : Nat := l.foldl (fun a b => a * 10 + (b.toNat - 48)) 0
theorem valD_snoc (l : List UInt8) (b : UInt8) : valD (l ++ [b]) = valD l * 10 + (b.toNat - 48) := by simp [valD]
theorem valD_dec (n : Nat) : valD (Lib.decDigits n) = n := by
  induction n using Nat.strongRecOn with
  | _ n ih =>
    rw [Lib.decDigits]
    split
    · have e : (UInt8.ofNat (48 + n)).toNat = 48 + n := by rw [UInt8.toNat_ofNat']; omega
      show 0 * 10 + ((UInt8.ofNat (48 + n)).toNat - 48) = n
      rw [e]; omega
    · have e : (UInt8.ofNat (48 + n % 10)).toNat = 48 + n % 10 := by rw [UInt8.toNat_ofNat']; omega
      rw [valD_snoc, ih (n / 10) (by omega), e]; omega
theorem dec_inj {n m : Nat} (h : Lib.decDigits n = Lib.decDigits m) : n = m := by
  rw [← valD_dec n, h, valD_dec]
theorem decFrom_val : ∀ (l : List UInt8) (acc : Nat), (∀ b ∈ l, 48 ≤ b.toNat ∧ b.toNat ≤ 57) → Lib.decFrom acc l = some (l.foldl (fun a b => a * 10 + (b.toNat - 48)) acc)
  | [], acc, _ => rfl
  | b :: l, acc, h => by
    have hb := h b (by simp)
    rw [Lib.decFrom, Lib.digitVal, if_pos hb]
    simp only [List.foldl_cons]
    exact decFrom_val l _ fun x hx => h x (by simp [hx])
theorem atoi_dec (n : Nat) : Lib.atoi (Lib.decDigits n) = some (n : Int) := by
  have hd := dec_digit n
  have hv := valD_dec n
  have hne := dec_ne n
  generalize Lib.decDigits n = l at hd hv hne
  cases l with
  | nil => exact absurd rfl hne
  | cons b r =>
    have hb := hd b (by simp)
    have h1 : ¬ (b == 45) = true := fun e => by
      have := beq_iff_eq.1 e
      subst this
      revert hb; decide
    have h2 : ¬ (b == 43) = true := fun e => by
      have := beq_iff_eq.1 e
      subst this
      revert hb; decide
    rw [Lib.atoi, if_neg h1, if_neg h2, Lib.decNat, if_neg (by simp), decFrom_val _ 0 hd]
    show some _ = _
    rw [← hv]; rfl
abbrev decI (n : Int) : List UInt8 := Lib.decDigits n.toNat
noncomputable def num10 (s : List UInt8) : Int := open Classical in if h : ∃ n : Nat, n < 100 ∧ s = Lib.decDigits n then (h.choose : Int) else -1
theorem num10_dec {n : Nat} (h : n < 100) : num10 (Lib.decDigits n) = n := by
  have hex : ∃ m : Nat, m < 100 ∧ Lib.decDigits n = Lib.decDigits m := ⟨n, h, rfl⟩
  unfold num10
  rw [dif_pos hex, dec_inj hex.choose_spec.2.symm]
theorem num10_cases (s : List UInt8) : num10 s = -1 ∨ ∃ n : Nat, n < 100 ∧ s = Lib.decDigits n ∧ num10 s = n := by
  by_cases hex : ∃ m : Nat, m < 100 ∧ s = Lib.decDigits m
  · obtain ⟨n, h, rfl⟩ := hex
    exact .inr ⟨n, h, rfl, num10_dec h⟩
  · left; unfold num10; rw [dif_neg hex]
theorem num10_none {s : List UInt8} (h : ∀ n : Nat, n < 100 → s ≠ Lib.decDigits n) : num10 s = -1 := by
  unfold num10
  rw [dif_neg]
  rintro ⟨n, h1, h2⟩
  exact h n h1 h2
theorem num10_pos {s : List UInt8} (h : 0 ≤ num10 s) : s = decI (num10 s) := by
  rcases num10_cases s with e | ⟨n, h1, h2, e⟩
  · omega
  · rw [e]; exact h2
def aNum (s : List UInt8) : Int := (Lib.atoi s).getD 0
theorem aNum_dec (n : Nat) : aNum (Lib.decDigits n) = n := by rw [aNum, atoi_dec]; rfl
/-! ### lines -/
def wTask : List UInt8 := [116, 97, 115, 107]
def fmtT (t : Task) : List UInt8 := if t.ok then wTask ++ (32 :: (decI t.C ++ (32 :: (decI t.D ++ (32 :: decI t.P))))) else []
theorem fields_fmt {t : Task} (h : t.ok) : fields (fmtT t) = [wTask, decI t.C, decI t.D, decI t.P] := by
  rw [fmtT, if_pos h, fields_words _ _ (by decide), fields_words _ _ (dec_nosp _), fields_words _ _ (dec_nosp _), fields_word _ (dec_nosp _)]
theorem dec_len {n : Int} (h0 : 0 ≤ n) (h : n < 100) : (decI n).length ≤ 2 ∧ 1 ≤ (decI n).length := by
  unfold decI
  by_cases h1 : n.toNat < 10
  · rw [Lib.decDigits_one h1]; simp
  · rw [Lib.decDigits_two h1 (by omega)]; simp
theorem fmt_len (t : Task) : (fmtT t).length ≤ 13 := by
  unfold fmtT
  split
  · rename_i h
    unfold Task.ok at h
    have h1 := dec_len (n := t.C) (by omega) (by omega)
    have h2 := dec_len (n := t.D) (by omega) (by omega)
    have h3 := dec_len (n := t.P) (by omega) (by omega)
    simp only [List.length_append, List.length_cons, wTask, List.length_nil]
    omega
  · simp
def IsLine (l : List UInt8) (t : Task) : Prop := t.ok ∧ l = fmtT t
theorem nat_task {t : Task} (h : t.ok) : (∃ n : Nat, t.C = n ∧ n < 100) ∧ (∃ n : Nat, t.D = n ∧ n < 100) ∧ ∃ n : Nat, t.P = n ∧ n < 100 := by
  unfold Task.ok at h
  exact ⟨⟨t.C.toNat, by omega, by omega⟩, ⟨t.D.toNat, by omega, by omega⟩, ⟨t.P.toNat, by omega, by omega⟩⟩
theorem decI_nat (n : Nat) : decI (n : Int) = Lib.decDigits n := by simp [decI]
noncomputable def specT (f : List (List UInt8)) : Task := ⟨num10 (f.getD 1 []), num10 (f.getD 2 []), num10 (f.getD 3 [])⟩
def implT (f : List (List UInt8)) : Task := ⟨aNum (f.getD 1 []), aNum (f.getD 2 []), aNum (f.getD 3 [])⟩
theorem spec_line {l : List UInt8} : (l.length ≤ 20 ∧ (fields l).length = 4 ∧ (fields l).getD 0 [] = wTask ∧ (specT (fields l)).ok) ↔ ∃ t, IsLine l t := by
  constructor
  · rintro ⟨h1, h2, h3, h4⟩
    refine ⟨_, h4, ?_⟩
    have hj := join_fields l
    match hf : fields l, h2 with
    | [a, b, c, d], _ =>
      rw [hf] at h3 h4 hj
      simp only [List.getD_cons_zero] at h3
      subst h3
      have hok := h4
      simp only [specT, List.getD_cons_succ, List.getD_cons_zero] at h4 ⊢
      unfold Task.ok at h4
      simp only at h4
      have e1 := num10_pos (s := b) (by omega)
      have e2 := num10_pos (s := c) (by omega)
      have e3 := num10_pos (s := d) (by omega)
      simp only [specT, List.getD_cons_succ, List.getD_cons_zero] at hok
      rw [fmtT, if_pos hok, ← hj]
      simp only [joinS]
      rw [← e1, ← e2, ← e3]
  · rintro ⟨t, ht, rfl⟩
    obtain ⟨⟨c, ec, hc⟩, ⟨d, ed, hd⟩, ⟨p, ep, hp⟩⟩ := nat_task ht
    have hl := fmt_len t
    rw [fields_fmt ht]
    refine ⟨by omega, rfl, rfl, ?_⟩
    simp only [specT, List.getD_cons_succ, List.getD_cons_zero, ec, ed, ep, decI_nat, num10_dec hc, num10_dec hd, num10_dec hp]
    rw [← ec, ← ed, ← ep]; exact ht
theorem spec_task {l : List UInt8} {t : Task} (h : IsLine l t) : specT (fields l) = t := by
  obtain ⟨ht, rfl⟩ := h
  obtain ⟨⟨c, ec, hc⟩, ⟨d, ed, hd⟩, ⟨p, ep, hp⟩⟩ := nat_task ht
  rw [fields_fmt ht]
  simp only [specT, List.getD_cons_succ, List.getD_cons_zero, ec, ed, ep, decI_nat, num10_dec hc, num10_dec hd, num10_dec hp]
  rw [← ec, ← ed, ← ep]
theorem impl_task {l : List UInt8} {t : Task} (h : IsLine l t) : implT (fields l) = t := by
  obtain ⟨ht, rfl⟩ := h
  obtain ⟨⟨c, ec, hc⟩, ⟨d, ed, hd⟩, ⟨p, ep, hp⟩⟩ := nat_task ht
  rw [fields_fmt ht]
  simp only [implT, List.getD_cons_succ, List.getD_cons_zero, ec, ed, ep, decI_nat, aNum_dec]
  rw [← ec, ← ed, ← ep]
theorem impl_line {l : List UInt8} : (l.length ≤ 20 ∧ (fields l).length = 4 ∧ fmtT (implT (fields l)) = l) ↔ ∃ t, IsLine l t := by
  constructor
  · rintro ⟨h1, h2, h3⟩
    by_cases ho : (implT (fields l)).ok
    · exact ⟨_, ho, h3.symm⟩
    · rw [fmtT, if_neg ho] at h3
      subst h3
      simp [fields] at h2
  · rintro ⟨t, h⟩
    have e := impl_task h
    obtain ⟨ht, rfl⟩ := h
    have hl := fmt_len t
    refine ⟨by omega, by rw [fields_fmt ht]; rfl, by rw [e]⟩
theorem line_inj {l : List UInt8} {t u : Task} (h : IsLine l t) (g : IsLine l u) : t = u := (impl_task h).symm.trans (impl_task g)
noncomputable def parseT (l : List UInt8) : Option Task := open Classical in if h : ∃ t, IsLine l t then some h.choose else none
theorem parse_some {l : List UInt8} {t : Task} (h : IsLine l t) : parseT l = some t := by
  have hex : ∃ t, IsLine l t := ⟨t, h⟩
  unfold parseT
  rw [dif_pos hex, line_inj hex.choose_spec h]
theorem parse_none {l : List UInt8} (h : ¬ ∃ t, IsLine l t) : parseT l = none := by unfold parseT; rw [dif_neg h]
end Go.Ds
/- The plain words of a report. No program in sight. -/
namespace Go.Ds
open Go
theorem dec_le : ∀ (k n : Nat), 1 ≤ k → n < 10 ^ k → (Lib.decDigits n).length ≤ k
  | 0, _, h, _ => absurd h (by decide)
  | k + 1, n, _, h => by
    rw [Lib.decDigits]
    split
    · simp
    · rename_i h10
      have hk : 1 ≤ k := by
        rcases Nat.eq_zero_or_pos k with rfl | h1
        · simp at h; omega
        · exact h1
      have := dec_le k (n / 10) hk (by rw [Nat.pow_succ] at h; omega)
      rw [List.length_append, List.length_singleton]; omega
theorem decI_le {n : Int} (h0 : 0 ≤ n) (h : n ≤ 1000000000) : (decI n).length ≤ 10 := dec_le 10 n.toNat (by decide) (by omega)
def lnOk (l : List UInt8) : Prop := ∃ t, IsLine l t
noncomputable def tOf (l : List UInt8) : Task := (parseT l).getD ⟨0, 0, 0⟩
theorem tOf_eq {l : List UInt8} {t : Task} (h : IsLine l t) : tOf l = t := by rw [tOf, parse_some h]; rfl
theorem tOf_ok {l : List UInt8} (h : lnOk l) : (tOf l).ok := by
  obtain ⟨t, ht⟩ := h
  rw [tOf_eq ht]; exact ht.1
theorem set_ok {L : List (List UInt8)} (h5 : L.length ≤ 5) (h : ∀ l ∈ L, lnOk l) : setOk (L.map tOf) :=
  ⟨by rw [List.length_map]; exact h5, fun t ht => by obtain ⟨l, hl, rfl⟩ := List.mem_map.1 ht; exact tOf_ok (h l hl)⟩
theorem setT_succ {L : List (List UInt8)} {k : Nat} (h : k < L.length) : (L.take (k + 1)).map tOf = (L.take k).map tOf ++ [tOf L[k]] := by
  rw [List.take_succ_eq_append_getElem h, List.map_append]; rfl
theorem setT_len {L : List (List UInt8)} {k : Nat} (h : k ≤ L.length) : ((L.take k).map tOf).length = k := by
  rw [List.length_map, List.length_take]; omega
def wLine : List UInt8 := [108, 105, 110, 101, 32]
def wMany : List UInt8 := [116, 111, 111, 32, 109, 97, 110, 121, 32, 116, 97, 115, 107, 115]
def wUtil : List UInt8 := [117, 116, 105, 108, 105, 122, 97, 116, 105, 111, 110, 32]
def wFeas : List UInt8 := [101, 100, 102, 32, 102, 101, 97, 115, 105, 98, 108, 101]
def wOver : List UInt8 := [101, 100, 102, 32, 111, 118, 101, 114, 108, 111, 97, 100, 32, 97, 116, 32]
def wResp : List UInt8 := [114, 101, 115, 112, 111, 110, 115, 101]
def wLate : List UInt8 := [32, 108, 97, 116, 101]
def wCores : List UInt8 := [99, 111, 114, 101, 115, 32]
def timeW (r : Int) : List UInt8 := if r < 0 then wLate else 32 :: decI r
def timesW (R : List Int) : List UInt8 := R.flatMap timeW
theorem timesW_succ {R : List Int} {k : Nat} (h : k < R.length) : timesW (R.take (k + 1)) = timesW (R.take k) ++ timeW R[k] := by
  rw [List.take_succ_eq_append_getElem h, timesW, List.flatMap_append]; simp [timesW]
theorem timeW_le {r : Int} (h : r ≤ 1000000000) : (timeW r).length ≤ 11 := by
  unfold timeW
  split
  · decide
  · have := decI_le (n := r) (by omega) h
    simp only [List.length_cons]; omega
theorem timesW_le {R : List Int} (h : ∀ r ∈ R, r ≤ 1000000000) : (timesW R).length ≤ 11 * R.length := by
  induction R with
  | nil => simp [timesW]
  | cons r R ih =>
    have h1 := timeW_le (h r (by simp))
    have h2 := ih fun x hx => h x (by simp [hx])
    rw [timesW, List.flatMap_cons, List.length_append, List.length_cons]
    rw [timesW] at h2; omega
def utW (a b : Nat) : List UInt8 := wUtil ++ Lib.decDigits a ++ [47] ++ Lib.decDigits b
def edfW (r : Int) : List UInt8 := if r < 0 then wFeas else wOver ++ decI r
def repW (a b : Nat) (r : Int) (R : List Int) (m : Int) : List (List UInt8) := [utW a b, edfW r, wResp ++ timesW R, wCores ++ decI m]
theorem edfW_iff {r : Int} : edfW r = wFeas ↔ r < 0 := by
  unfold edfW
  split
  · simp_all
  · rename_i h
    refine ⟨fun e => ?_, fun h' => absurd h' h⟩
    have := congrArg (fun l : List UInt8 => l.getD 4 0) e
    simp [wOver, wFeas] at this
end Go.Ds
