import Derived.Test.YtfngcejaphhmmaaDoorS96
import Derived.Test.YtfngcejaphhmmaaDoorAbsY
namespace Go.Proofs.YtfngcejaphhmmaaDoor
open Go.Abs Go.Ds
set_option linter.unusedSimpArgs false
set_option linter.unusedVariables false
set_option maxRecDepth 20000
set_option maxHeartbeats 2000000
theorem lenS (L : List (List UInt8)) : (encStr.row L).length = L.length := by simpa [encStr] using encStr.row_length L
theorem rdS {L : List (List UInt8)} {k : Nat} (h : k < L.length) : rd (encStr.row L) k = .s (bs (L[k]'h)) := by simpa [encStr, rd] using encStr.rd L k 0 h (by decide)
theorem appS (L : List (List UInt8)) (a : List UInt8) : encStr.row L ++ [.s (bs a)] = encStr.row (L ++ [a]) := by rw [encStr.row_append, encStr.row_one]; rfl
theorem takeS (L : List (List UInt8)) : (encStr.row L).take L.length = encStr.row L := List.take_of_length_le (by rw [lenS]; omega)
theorem toBy1 (a : Int) : toBy [.i .u8 a] = [UInt8.ofNat a.toNat] := rfl
theorem isBy1 (a : Int) : isBy [.i .u8 a] = true := rfl
/-! ### the program's lines -/
theorem fmt_form {t : Task} (h : t.ok) : ((((([116, 97, 115, 107, 32] : List UInt8) ++ decI t.C) ++ [32]) ++ decI t.D) ++ [32]) ++ decI t.P = fmtT t := by
  rw [fmtT, if_pos h]
  simp [wTask, List.append_assoc]
theorem dec_lenle (n : Nat) : (Lib.decDigits n).length ≤ n + 1 := by
  induction n using Nat.strongRecOn with
  | _ n ih =>
    rw [Lib.decDigits]
    split
    · simp
    · have := ih (n / 10) (by omega)
      rw [List.length_append, List.length_cons, List.length_nil]; omega
theorem dec_small {n : Int} (h0 : 0 ≤ n) (h : n < 100) : (decI n).length ≤ 2 := (dec_len h0 h).1
theorem impl_FormatTask0 (t : Task) : CallWp Tryd.prog n_impl_FormatTask [.agg (encTask.f t)] [] (fun x σ => x = .s (bs (fmtT t)) ∧ σ = []) := by
  refine call_impl_FormatTask (by simp) ?_
  have e4 : encTask.f t = [.i .i64 t.C, .i .i64 t.D, .i .i64 t.P] := rfl
  rw [e4]
  simp only [c_impl_FormatTask, not_true_eq_false, not_false_eq_true, decide_true, decide_false, Bool.not_true, Bool.not_false, false_implies, true_implies, and_true, true_and, Bool.false_eq_true, Bool.true_eq_false, implies_true, Bool.not_not, Classical.not_not, go_sem, Int.reduceToNat, List.take_nil, Nat.zero_mul, Nat.reduceEqDiff, Nat.reduceAdd, Nat.reduceLT, Nat.reduceLeDiff, Nat.reduceMul, ↓reduceIte, reduceCtorEq]
  refine impl_TaskValid_ t ?_
  simp only [not_true_eq_false, not_false_eq_true, decide_true, decide_false, Bool.not_true, Bool.not_false, false_implies, true_implies, and_true, true_and, Bool.false_eq_true, Bool.true_eq_false, implies_true, Bool.not_not, Classical.not_not, go_sem, Int.reduceToNat, List.take_nil, Nat.zero_mul, Nat.reduceEqDiff, Nat.reduceAdd, Nat.reduceLT, Nat.reduceLeDiff, Nat.reduceMul, ↓reduceIte, reduceCtorEq]
  refine ⟨fun hno => ?_, fun hok => ?_⟩
  · rw [show fmtT t = [] from if_neg hno]
    exact Fin.pick [] (.s (bs [])) [] ⟨rfl, rfl⟩
  · have ht := hok
    unfold Task.ok at ht
    have l1 := dec_small (n := t.C) (by omega) (by omega)
    have l2 := dec_small (n := t.D) (by omega) (by omega)
    have l3 := dec_small (n := t.P) (by omega) (by omega)
    refine onCall.by (strconv_Itoa_ t.C (by omega) (by omega) ⟨rfl, rfl⟩) ?_
    simp only [List.length_append, List.length_cons, List.length_nil, not_true_eq_false, not_false_eq_true, decide_true, decide_false, Bool.not_true, Bool.not_false, false_implies, true_implies, and_true, true_and, Bool.false_eq_true, Bool.true_eq_false, implies_true, Bool.not_not, Classical.not_not, go_sem, Int.reduceToNat, List.take_nil, Nat.zero_mul, Nat.reduceEqDiff, Nat.reduceAdd, Nat.reduceLT, Nat.reduceLeDiff, Nat.reduceMul, ↓reduceIte, reduceCtorEq]
    refine ⟨by omega, by omega, onCall.by (strconv_Itoa_ t.D (by omega) (by omega) ⟨rfl, rfl⟩) ?_⟩
    simp only [List.length_append, List.length_cons, List.length_nil, not_true_eq_false, not_false_eq_true, decide_true, decide_false, Bool.not_true, Bool.not_false, false_implies, true_implies, and_true, true_and, Bool.false_eq_true, Bool.true_eq_false, implies_true, Bool.not_not, Classical.not_not, go_sem, Int.reduceToNat, List.take_nil, Nat.zero_mul, Nat.reduceEqDiff, Nat.reduceAdd, Nat.reduceLT, Nat.reduceLeDiff, Nat.reduceMul, ↓reduceIte, reduceCtorEq]
    refine ⟨by omega, by omega, onCall.by (strconv_Itoa_ t.P (by omega) (by omega) ⟨rfl, rfl⟩) ?_⟩
    simp only [List.length_append, List.length_cons, List.length_nil, not_true_eq_false, not_false_eq_true, decide_true, decide_false, Bool.not_true, Bool.not_false, false_implies, true_implies, and_true, true_and, Bool.false_eq_true, Bool.true_eq_false, implies_true, Bool.not_not, Classical.not_not, go_sem, Int.reduceToNat, List.take_nil, Nat.zero_mul, Nat.reduceEqDiff, Nat.reduceAdd, Nat.reduceLT, Nat.reduceLeDiff, Nat.reduceMul, ↓reduceIte, reduceCtorEq]
    refine ⟨by omega, ?_⟩
    have e : (116 :: 97 :: 115 :: 107 :: 32 :: (decI t.C ++ [32] ++ decI t.D ++ [32] ++ decI t.P) : List UInt8) = fmtT t := by rw [← fmt_form hok]; simp
    rw [e]
    exact Fin.pick [] (.s (bs (fmtT t))) [] ⟨rfl, rfl⟩
theorem impl_FormatTask_ (t : Task) {σ : List AB} {K : AV → List AB → Prop} (hk : K (.s (bs (fmtT t))) σ) : CallWp Tryd.prog n_impl_FormatTask [.agg (encTask.f t)] σ K :=
  call0 (impl_FormatTask0 t) rfl rfl hk
theorem spec_l10Plain0 (n : Nat) (hn : n ≤ 1000000000) : CallWp Tryd.prog n_spec_l10Plain [.i .i64 n] [] (fun x σ => x = .s (bs (Lib.decDigits n)) ∧ σ = []) := by
  refine call_spec_l10Plain (by simp) ?_
  simp only [c_spec_l10Plain, not_true_eq_false, not_false_eq_true, decide_true, decide_false, Bool.not_true, Bool.not_false, false_implies, true_implies, and_true, true_and, Bool.false_eq_true, Bool.true_eq_false, implies_true, Bool.not_not, Classical.not_not, go_sem, Int.reduceToNat, List.take_nil, Nat.zero_mul, Nat.reduceEqDiff, Nat.reduceAdd, Nat.reduceLT, Nat.reduceLeDiff, Nat.reduceMul, ↓reduceIte, reduceCtorEq]
  refine loop_intro (fun s : Nat × List UInt8 => ⟨[(0, .i .i64 s.1), (3, .s (bs s.2))], []⟩) (fun s => s.1 ≤ n ∧ Lib.decDigits s.1 ++ s.2 = Lib.decDigits n) (fun s => s.1) (n, []) ⟨Nat.le_refl _, by simp⟩ (Wk.pick []) ?_
  rintro ⟨m, out⟩ ⟨h1, h3⟩
  simp only at h1 h3
  have hlen : out.length ≤ n + 1 := by
    have := dec_lenle n
    rw [← h3, List.length_append] at this; omega
  have e1 : (m : Int).tmod 10 = ((m % 10 : Nat) : Int) := by rw [Int.tmod_eq_emod_of_nonneg (by omega)]; omega
  have e2 : (m : Int).tdiv 10 = ((m / 10 : Nat) : Int) := by rw [Int.tdiv_eq_ediv_of_nonneg (by omega)]; omega
  have e3 : (48 + ((m % 10 : Nat) : Int)).toNat = 48 + m % 10 := by omega
  have e4 : (48 + (m : Int)).toNat = 48 + m := by omega
  simp only [l0_spec_l10Plain, e1, e2, toBy1, isBy1, e3, e4, not_true_eq_false, not_false_eq_true, decide_true, decide_false, Bool.not_true, Bool.not_false, false_implies, true_implies, and_true, true_and, Bool.false_eq_true, Bool.true_eq_false, implies_true, Bool.not_not, Classical.not_not, go_sem, Int.reduceToNat, List.take_nil, Nat.zero_mul, Nat.reduceEqDiff, Nat.reduceAdd, Nat.reduceLT, Nat.reduceLeDiff, Nat.reduceMul, ↓reduceIte, reduceCtorEq]
  refine ⟨fun hgt => ?_, fun hle => ?_⟩
  · have hd : Lib.decDigits m = Lib.decDigits (m / 10) ++ [UInt8.ofNat (48 + m % 10)] := by rw [Lib.decDigits, dif_neg (by omega)]
    refine ⟨by omega, by omega, by omega, by omega, by omega, by omega, (m / 10, UInt8.ofNat (48 + m % 10) :: out), ⟨⟨by simp only; omega, ?_⟩, by simp only; omega⟩, Wk.pick []⟩
    show Lib.decDigits (m / 10) ++ (UInt8.ofNat (48 + m % 10) :: out) = _
    rw [← h3, hd]; simp
  · have hd : Lib.decDigits m = [UInt8.ofNat (48 + m)] := by rw [Lib.decDigits, dif_pos (by omega)]
    refine ⟨by omega, by omega, by omega, ?_⟩
    rw [← h3, hd]
    exact Fin.pick [] (.s (bs ([UInt8.ofNat (48 + m)] ++ out))) [] ⟨rfl, rfl⟩
theorem spec_l10Plain_ (n : Nat) (hn : n ≤ 1000000000) {σ : List AB} {K : AV → List AB → Prop} (hk : K (.s (bs (Lib.decDigits n))) σ) : CallWp Tryd.prog n_spec_l10Plain [.i .i64 n] σ K :=
  call0 (spec_l10Plain0 n hn) rfl rfl hk
theorem spec_l10PlainI (n : Int) (h0 : 0 ≤ n) (hn : n ≤ 1000000000) {σ : List AB} {K : AV → List AB → Prop} (hk : K (.s (bs (decI n))) σ) : CallWp Tryd.prog n_spec_l10Plain [.i .i64 n] σ K := by
  obtain ⟨m, rfl⟩ : ∃ m : Nat, n = m := ⟨n.toNat, by omega⟩
  refine spec_l10Plain_ m (by omega) ?_
  rwa [decI_nat] at hk
theorem spec_FormatTask0 (t : Task) : CallWp Tryd.prog n_spec_FormatTask [.agg (encTask.f t)] [] (fun x σ => x = .s (bs (fmtT t)) ∧ σ = []) := by
  refine call_spec_FormatTask (by simp) ?_
  have e4 : encTask.f t = [.i .i64 t.C, .i .i64 t.D, .i .i64 t.P] := rfl
  rw [e4]
  simp only [c_spec_FormatTask, not_true_eq_false, not_false_eq_true, decide_true, decide_false, Bool.not_true, Bool.not_false, false_implies, true_implies, and_true, true_and, Bool.false_eq_true, Bool.true_eq_false, implies_true, Bool.not_not, Classical.not_not, go_sem, Int.reduceToNat, List.take_nil, Nat.zero_mul, Nat.reduceEqDiff, Nat.reduceAdd, Nat.reduceLT, Nat.reduceLeDiff, Nat.reduceMul, ↓reduceIte, reduceCtorEq]
  refine spec_TaskValid_ t ?_
  simp only [not_true_eq_false, not_false_eq_true, decide_true, decide_false, Bool.not_true, Bool.not_false, false_implies, true_implies, and_true, true_and, Bool.false_eq_true, Bool.true_eq_false, implies_true, Bool.not_not, Classical.not_not, go_sem, Int.reduceToNat, List.take_nil, Nat.zero_mul, Nat.reduceEqDiff, Nat.reduceAdd, Nat.reduceLT, Nat.reduceLeDiff, Nat.reduceMul, ↓reduceIte, reduceCtorEq]
  refine ⟨fun hno => ?_, fun hok => ?_⟩
  · rw [show fmtT t = [] from if_neg hno]
    exact Fin.pick [] (.s (bs [])) [] ⟨rfl, rfl⟩
  · have ht := hok
    unfold Task.ok at ht
    have l1 := dec_small (n := t.C) (by omega) (by omega)
    have l2 := dec_small (n := t.D) (by omega) (by omega)
    have l3 := dec_small (n := t.P) (by omega) (by omega)
    refine onCall.by (spec_l10PlainI t.C (by omega) (by omega) ⟨rfl, rfl⟩) ?_
    simp only [List.length_append, List.length_cons, List.length_nil, not_true_eq_false, not_false_eq_true, decide_true, decide_false, Bool.not_true, Bool.not_false, false_implies, true_implies, and_true, true_and, Bool.false_eq_true, Bool.true_eq_false, implies_true, Bool.not_not, Classical.not_not, go_sem, Int.reduceToNat, List.take_nil, Nat.zero_mul, Nat.reduceEqDiff, Nat.reduceAdd, Nat.reduceLT, Nat.reduceLeDiff, Nat.reduceMul, ↓reduceIte, reduceCtorEq]
    refine ⟨by omega, by omega, onCall.by (spec_l10PlainI t.D (by omega) (by omega) ⟨rfl, rfl⟩) ?_⟩
    simp only [List.length_append, List.length_cons, List.length_nil, not_true_eq_false, not_false_eq_true, decide_true, decide_false, Bool.not_true, Bool.not_false, false_implies, true_implies, and_true, true_and, Bool.false_eq_true, Bool.true_eq_false, implies_true, Bool.not_not, Classical.not_not, go_sem, Int.reduceToNat, List.take_nil, Nat.zero_mul, Nat.reduceEqDiff, Nat.reduceAdd, Nat.reduceLT, Nat.reduceLeDiff, Nat.reduceMul, ↓reduceIte, reduceCtorEq]
    refine ⟨by omega, by omega, onCall.by (spec_l10PlainI t.P (by omega) (by omega) ⟨rfl, rfl⟩) ?_⟩
    simp only [List.length_append, List.length_cons, List.length_nil, not_true_eq_false, not_false_eq_true, decide_true, decide_false, Bool.not_true, Bool.not_false, false_implies, true_implies, and_true, true_and, Bool.false_eq_true, Bool.true_eq_false, implies_true, Bool.not_not, Classical.not_not, go_sem, Int.reduceToNat, List.take_nil, Nat.zero_mul, Nat.reduceEqDiff, Nat.reduceAdd, Nat.reduceLT, Nat.reduceLeDiff, Nat.reduceMul, ↓reduceIte, reduceCtorEq]
    refine ⟨by omega, ?_⟩
    have e : (116 :: 97 :: 115 :: 107 :: 32 :: (decI t.C ++ [32] ++ decI t.D ++ [32] ++ decI t.P) : List UInt8) = fmtT t := by rw [← fmt_form hok]; simp
    rw [e]
    exact Fin.pick [] (.s (bs (fmtT t))) [] ⟨rfl, rfl⟩
theorem spec_FormatTask_ (t : Task) {σ : List AB} {K : AV → List AB → Prop} (hk : K (.s (bs (fmtT t))) σ) : CallWp Tryd.prog n_spec_FormatTask [.agg (encTask.f t)] σ K :=
  call0 (spec_FormatTask0 t) rfl rfl hk
/-! ### words as numbers -/
theorem val_le2 {s : List UInt8} (h : s.length ≤ 2) (hd : ∀ b ∈ s, 48 ≤ b.toNat ∧ b.toNat ≤ 57) : valD s < 100 := by
  match s, h with
  | [], _ => decide
  | [a], _ => have := hd a (by simp); simp [valD]; omega
  | [a, b], _ => have := hd a (by simp); have := hd b (by simp); simp [valD]; omega
theorem spec_l10Num0 (s : List UInt8) : CallWp Tryd.prog n_spec_l10Num [.s (bs s)] [] (fun x σ => x = .i .i64 (num10 s) ∧ σ = []) := by
  refine call_spec_l10Num (by simp) ?_
  have hlen : ∀ n : Nat, n < 100 → (Lib.decDigits n).length ≤ 2 ∧ 1 ≤ (Lib.decDigits n).length := fun n h => by
    have := dec_len (n := (n : Int)) (by omega) (by omega)
    rwa [decI_nat] at this
  have bad : ∀ b : UInt8, b ∈ s → ¬ (48 ≤ b.toNat ∧ b.toNat ≤ 57) → num10 s = -1 := fun b hb hn => num10_none fun n _ e => hn (dec_digit n b (e ▸ hb))
  simp only [c_spec_l10Num, not_true_eq_false, not_false_eq_true, decide_true, decide_false, Bool.not_true, Bool.not_false, false_implies, true_implies, and_true, true_and, Bool.false_eq_true, Bool.true_eq_false, implies_true, Bool.not_not, Classical.not_not, go_sem, Int.reduceToNat, List.take_nil, Nat.zero_mul, Nat.reduceEqDiff, Nat.reduceAdd, Nat.reduceLT, Nat.reduceLeDiff, Nat.reduceMul, ↓reduceIte, reduceCtorEq]
  have fin : ∀ v : Int, num10 s = v → Fin 0 [] (.i .i64 v) (fun x σ => x = .i .i64 (num10 s) ∧ σ = []) := fun v e => by
    rw [← e]; exact Fin.pick [] (.i .i64 (num10 s)) [] ⟨rfl, rfl⟩
  refine ⟨fun h0 => ⟨fun h2 => fin _ (num10_none fun n hn e => ?_), fun h2 => ?_⟩, fun h0 => fin _ (num10_none fun n hn e => ?_)⟩
  · have := hlen n hn; rw [← e] at this; omega
  · refine loop_count s.length (fun k => ⟨[(0, .s (bs s)), (3, .i .i64 (valD (s.take k))), (4, .i .i64 k)], []⟩) (fun k => ∀ b ∈ s.take k, 48 ≤ b.toNat ∧ b.toNat ≤ 57) (by simp) (Wk.pick [] (by simp [seesT, belowT, below1, below, sees, ren, ren1, renC, rnp, nat2, look_cons, valD])) fun k hk hJ => ?_
    have hv := val_le2 (s := s.take k) (by rw [List.length_take]; omega) hJ
    simp only [l0_spec_l10Num, not_true_eq_false, not_false_eq_true, decide_true, decide_false, Bool.not_true, Bool.not_false, false_implies, true_implies, and_true, true_and, Bool.false_eq_true, Bool.true_eq_false, implies_true, Bool.not_not, Classical.not_not, go_sem, Int.reduceToNat, List.take_nil, Nat.zero_mul, Nat.reduceEqDiff, Nat.reduceAdd, Nat.reduceLT, Nat.reduceLeDiff, Nat.reduceMul, ↓reduceIte, reduceCtorEq]
    refine ⟨fun hlt => ?_, fun hge => ?_⟩
    · have hget : s.getD k 0 = s[k] := by simp [List.getD_eq_getElem?_getD, hlt]
      have hm : s[k] ∈ s := List.getElem_mem _
      have hu := (s[k]).toNat_lt
      have hvs : ¬ (s[k]).toNat < 48 → (((valD (s.take k) : Nat) : Int) * 10 + (((s[k]).toNat : Nat) - 48) = ((valD (s.take (k + 1)) : Nat) : Int)) := fun h => by
        rw [List.take_succ_eq_append_getElem hlt, valD_snoc]; omega
      simp only [hget, not_true_eq_false, not_false_eq_true, decide_true, decide_false, Bool.not_true, Bool.not_false, false_implies, true_implies, and_true, true_and, Bool.false_eq_true, Bool.true_eq_false, implies_true, Bool.not_not, Classical.not_not, go_sem, Int.reduceToNat, List.take_nil, Nat.zero_mul, Nat.reduceEqDiff, Nat.reduceAdd, Nat.reduceLT, Nat.reduceLeDiff, Nat.reduceMul, ↓reduceIte, reduceCtorEq]
      refine ⟨hlt, fun h48 => ⟨hlt, fun h57 => fin _ (bad _ hm (by omega)), fun h57 => ⟨by omega, hlt, by omega, by omega, by omega, by omega, ⟨hlt, ?_⟩, ?_⟩⟩, fun h48 => fin _ (bad _ hm (by omega))⟩
      · rw [all_take_succ hlt]; exact ⟨hJ, by omega⟩
      · rw [hvs (by omega)]; exact Wk.pick []
    · obtain rfl : k = s.length := by omega
      rw [List.take_length] at hv hJ ⊢
      refine spec_l10Plain_ (valD s) (by omega) ?_
      simp only [bs_inj, not_true_eq_false, not_false_eq_true, decide_true, decide_false, Bool.not_true, Bool.not_false, false_implies, true_implies, and_true, true_and, Bool.false_eq_true, Bool.true_eq_false, implies_true, Bool.not_not, Classical.not_not, go_sem, Int.reduceToNat, List.take_nil, Nat.zero_mul, Nat.reduceEqDiff, Nat.reduceAdd, Nat.reduceLT, Nat.reduceLeDiff, Nat.reduceMul, ↓reduceIte, reduceCtorEq]
      refine ⟨fun hne => fin _ (num10_none fun n hn e => hne ?_), fun he => fin _ ?_⟩
      · rw [e, valD_dec]
      · have h5 := num10_dec hv
        rwa [he] at h5
  · have := hlen n hn; rw [← e] at this; omega
theorem spec_l10Num_ (s : List UInt8) {σ : List AB} {K : AV → List AB → Prop} (hk : K (.i .i64 (num10 s)) σ) : CallWp Tryd.prog n_spec_l10Num [.s (bs s)] σ K :=
  call0 (spec_l10Num0 s) rfl rfl hk
/-! ### the fields -/
theorem consW_len (w : List UInt8) (f : List (List UInt8)) : (consW w f).length = max 1 f.length := by cases f <;> simp [consW]
theorem fields_len : ∀ l : List UInt8, (fields l).length ≤ l.length + 1
  | [] => by simp [fields]
  | c :: l => by
    have := fields_len l
    by_cases h : c = 32
    · subst h; rw [fields_sep]; simp; omega
    · rw [fields_chr h, consW_len]; simp; omega
def FldR (l : List UInt8) (x : AV) (τ : List AB) : Prop := ∃ cap cc, x = .sl 0 0 (fields l).length cap ∧ τ = [.rw ty_string (encStr.row (fields l)) cc]
theorem FldR.fr {l : List UInt8} {x : AV} {τ : List AB} (h : FldR l x τ) : τ.all plainRw = true ∧ freshA 0 x = true := by
  obtain ⟨cap, cc, rfl, rfl⟩ := h
  simp [plainRw, encStr.row_flat, freshA, fresh1A, freshC]
theorem spec_l10Fields0 (l : List UInt8) (hl : l.length ≤ 1000000) : CallWp Tryd.prog n_spec_l10Fields [.s (bs l)] [] (fun x σ' => ∃ τ, σ' = [] ++ τ ∧ FldR l x τ) := by
  refine call_spec_l10Fields (by simp) ?_
  simp only [c_spec_l10Fields, not_true_eq_false, not_false_eq_true, decide_true, decide_false, Bool.not_true, Bool.not_false, false_implies, true_implies, and_true, true_and, Bool.false_eq_true, Bool.true_eq_false, implies_true, Bool.not_not, Classical.not_not, go_sem, Int.reduceToNat, List.take_nil, Nat.zero_mul, Nat.reduceEqDiff, Nat.reduceAdd, Nat.reduceLT, Nat.reduceLeDiff, Nat.reduceMul, ↓reduceIte, reduceCtorEq]
  refine loop_intro (fun s : Nat × List (List UInt8) × List UInt8 × Nat => ⟨[(0, .s (bs l)), (3, .sl 0 0 s.2.1.length s.2.2.2), (4, .s (bs s.2.2.1)), (5, .i .i64 s.1)], [.rw ty_string (encStr.row s.2.1) s.2.2.2]⟩)
    (fun s => s.1 ≤ l.length ∧ s.2.1 ++ consW s.2.2.1 (fields (l.drop s.1)) = fields l ∧ s.2.2.1.length ≤ s.1) (fun s => l.length - s.1) (0, [], [], 0) ⟨Nat.zero_le _, by simp [consW_nil _ (fields_ne l)], Nat.le_refl _⟩ (Wk.pick [0]) ?_
  rintro ⟨i, F, w, cap⟩ ⟨h1, h2, h3⟩
  simp only at h1 h2 h3
  have hF : F.length ≤ l.length + 1 := by
    have := fields_len l
    rw [← h2, List.length_append] at this; omega
  simp only [l0_spec_l10Fields, not_true_eq_false, not_false_eq_true, decide_true, decide_false, Bool.not_true, Bool.not_false, false_implies, true_implies, and_true, true_and, Bool.false_eq_true, Bool.true_eq_false, implies_true, Bool.not_not, Classical.not_not, go_sem, Int.reduceToNat, List.take_nil, Nat.zero_mul, Nat.reduceEqDiff, Nat.reduceAdd, Nat.reduceLT, Nat.reduceLeDiff, Nat.reduceMul, ↓reduceIte, reduceCtorEq]
  refine ⟨fun hlt => ?_, fun hge => ?_⟩
  · have hget : l.getD i 0 = l[i] := by simp [List.getD_eq_getElem?_getD, hlt]
    have hdr : l.drop i = l[i] :: l.drop (i + 1) := List.drop_eq_getElem_cons hlt
    have hsub : (l.take (i + 1)).drop i = [l[i]] := by rw [List.take_succ_eq_append_getElem hlt, List.drop_append_of_le_length (by rw [List.length_take]; omega)]; simp
    have hi1 : ((i : Int) + 1).toNat = i + 1 := by omega
    simp only [hget, hi1, hsub, lenS, takeS, appS, List.length_append, List.length_cons, List.length_nil, not_true_eq_false, not_false_eq_true, decide_true, decide_false, Bool.not_true, Bool.not_false, false_implies, true_implies, and_true, true_and, Bool.false_eq_true, Bool.true_eq_false, implies_true, Bool.not_not, Classical.not_not, go_sem, Int.reduceToNat, List.take_nil, Nat.zero_mul, Nat.reduceEqDiff, Nat.reduceAdd, Nat.reduceLT, Nat.reduceLeDiff, Nat.reduceMul, ↓reduceIte, reduceCtorEq]
    refine ⟨hlt, fun he => ⟨⟨by omega, by omega, by omega⟩, fun cap' hc => ?_⟩, fun hne => ?_⟩
    · have hc32 : l[i] = 32 := UInt8.toNat_inj.1 (by show (l[i]).toNat = 32; omega)
      refine ⟨by omega, (i + 1, F ++ [w], [], cap'), ⟨⟨by simp only; omega, ?_, Nat.zero_le _⟩, by simp only; omega⟩, ?_⟩
      · show (F ++ [w]) ++ consW [] (fields (l.drop (i + 1))) = fields l
        rw [← h2, hdr, hc32, fields_sep, consW_nil _ (fields_ne _)]
        simp [consW]
      · simp only [List.length_append, List.length_cons, List.length_nil]
        exact Wk.pick [2]
    · have hc32 : l[i] ≠ 32 := fun e => hne (by rw [e]; rfl)
      refine ⟨by omega, by omega, by omega, by omega, by omega, (i + 1, F, w ++ [l[i]], cap), ⟨⟨by simp only; omega, ?_, ?_⟩, by simp only; omega⟩, Wk.pick [0]⟩
      · show F ++ consW (w ++ [l[i]]) (fields (l.drop (i + 1))) = fields l
        rw [← h2, hdr, fields_chr hc32, consW_consW]
      · simp only [List.length_append, List.length_cons, List.length_nil]; omega
  · obtain rfl : i = l.length := by omega
    simp only [lenS, takeS, appS, List.length_append, List.length_cons, List.length_nil, not_true_eq_false, not_false_eq_true, decide_true, decide_false, Bool.not_true, Bool.not_false, false_implies, true_implies, and_true, true_and, Bool.false_eq_true, Bool.true_eq_false, implies_true, Bool.not_not, Classical.not_not, go_sem, Int.reduceToNat, List.take_nil, Nat.zero_mul, Nat.reduceEqDiff, Nat.reduceAdd, Nat.reduceLT, Nat.reduceLeDiff, Nat.reduceMul, ↓reduceIte, reduceCtorEq]
    have hF2 : F ++ [w] = fields l := by
      rw [← h2, List.drop_length]; simp [fields, consW]
    refine ⟨⟨by omega, by omega, by omega⟩, fun cap' hc => ?_⟩
    have hFl : F.length + 1 = (fields l).length := by rw [← hF2]; simp
    rw [hF2, hFl]
    exact Fin.pick [2] (.sl 0 0 (fields l).length cap') [.rw ty_string (encStr.row (fields l)) cap'] ⟨_, rfl, cap', cap', rfl, rfl⟩
theorem spec_l10Fields_ (l : List UInt8) (hl : l.length ≤ 1000000) {σ : List AB} {K : AV → List AB → Prop} (hk : ∀ cap cc, K (.sl σ.length 0 (fields l).length cap) (σ ++ [.rw ty_string (encStr.row (fields l)) cc])) : CallWp Tryd.prog n_spec_l10Fields [.s (bs l)] σ K := by
  refine call_news [] (by simp) (fun _ => [.s (bs l)]) (FldR l) (fun _ => spec_l10Fields0 l hl) (fun _ _ h => h.fr) (fun ν c h => ⟨.inl rfl, trivial⟩) (fun _ => rfl) ?_
  rintro x τ ⟨cap, cc, rfl, rfl⟩
  exact hk cap cc
end Go.Proofs.YtfngcejaphhmmaaDoor
