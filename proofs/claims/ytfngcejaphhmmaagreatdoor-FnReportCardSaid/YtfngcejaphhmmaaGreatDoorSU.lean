import Derived.Test.YtfngcejaphhmmaaGreatDoorShelf
import Derived.Test.YtfngcejaphhmmaaGreatDoorMT
import Derived.Lib.AppendIntMem
import Derived.Test.YtfngcejaphhmmaaGreatDoorC1
import Derived.Test.YtfngcejaphhmmaaGreatDoorAbsY
import Derived.Test.YtfngcejaphhmmaaGreatDoorD1
import Derived.Test.YtfngcejaphhmmaaGreatDoorD2
import Derived.Test.YtfngcejaphhmmaaGreatDoorD4
namespace Go.Proofs
open Go.Shelf Go.RowKit Go.Lib
section
variable {P : Program} {ρ : Ren}
set_option maxHeartbeats 1000000 in
theorem YtfngcejaphhmmaaGreatDoor.split_one (L : Lays.n146 P ρ) (hi9 : (P.info? (ρ.t 9)).map (fun i => (i.zero, i.size, i.bytes)) = some (some (.string ByteArray.empty), 1, 16)) (s : ByteArray) (c : UInt8) (w : World) (hs : s.size < 4294967281) :
    Calls P (ρ.f 146) #[.string s, .string ⟨#[c]⟩] w fun e w' =>
      e = .returned (.slice (some ⟨w.heap.size, 0, none⟩) (Lib.countB s ⟨#[c]⟩ + 1) (Lib.countB s ⟨#[c]⟩ + 1)) ∧ w' = w.alloc (.cells ((Lib.splitB ⟨#[c]⟩ 0 (Lib.countB s ⟨#[c]⟩) s).map Value.string).toArray (ρ.t 9)) := by
  have h1 : 1 ≤ (ByteArray.mk #[c]).size := Nat.le_refl _
  have hle := Lib.countB_le ⟨#[c]⟩ h1 s.size s (Nat.le_refl _)
  have hlen := Lib.splitB_all ⟨#[c]⟩ h1 0 _ s rfl
  have hI : ∀ (x : ByteArray) (C : Array Value), x.size ≤ s.size → Calls P (ρ.f 143) #[.string x, .string ⟨#[c]⟩] (w.alloc (.cells C (ρ.t 9))) fun e w' => e = .returned (.int .i64 (Lib.indexB x ⟨#[c]⟩)) ∧ w' = w.alloc (.cells C (ρ.t 9)) := fun x C _ => by
    refine (Any.strings_Index_one { L with } x c _).mono fun e w' ⟨he, hw⟩ => ⟨?_, hw⟩
    rw [he]
    show Ending.returned (Value.int .i64 (Lib.indexByte x.data.toList c)) = .returned (.int .i64 (Lib.index x.data.toList [c]))
    rw [Lib.index_one]
  have hC : Calls P (ρ.f 138) #[.string s, .string ⟨#[c]⟩] w fun e w' => e = .returned (.int .i64 (Lib.countB s ⟨#[c]⟩)) ∧ w' = w := by
    refine (Any.strings_Count_one { L with } s c w).mono fun e w' ⟨he, hw⟩ => ⟨?_, hw⟩
    rw [he]
    show _ = Ending.returned (Value.int .i64 ((Lib.count s.data.toList [c] : Nat) : Int))
    rw [Lib.count_one]
    rfl
  have C := Any.strings_genSplit_core { L with } hi9 s ⟨#[c]⟩ 0 (-1) (Lib.countB s ⟨#[c]⟩ + 1) w hs h1 (Nat.zero_le _) hI hC (by decide) (by decide) (by rw [if_pos (by decide)]; omega)
  rw [Nat.add_sub_cancel, hlen] at C
  have e2 : Lib.cellsOf (Lib.splitB ⟨#[c]⟩ 0 (Lib.countB s ⟨#[c]⟩) s) (Lib.countB s ⟨#[c]⟩ + 1) = ((Lib.splitB ⟨#[c]⟩ 0 (Lib.countB s ⟨#[c]⟩) s).map Value.string).toArray := by rw [← hlen]; exact Lib.cellsOf_full _
  rw [e2] at C
  have t3 := L.t3; have t9 := L.t9; have t31 := L.t31
  have a3 := L.a3; have a9 := L.a9; have a31 := L.a31
  have z3 := L.z3; have v3 := L.v3; have z9 := L.z9; have v9 := L.v9; have z31 := L.z31; have v31 := L.v31
  have e221 : ∀ args w, (callFunc (ρ.f 221) args).run P w = .ok (.enter (ρ.f 221) args) w := enters_of L.f221 (by kernel_rfl) rfl
  go_enter L.f146, Body.n146_ntmps ρ
  go_wp2_with (go_at_fn (ρ.f 221); refine C.mono ?_; rintro e w' ⟨rfl, hw⟩; rw [hw])
  go_ret
  exact ⟨rfl, rfl⟩
end
end Go.Proofs
namespace Go.Abs
open Go.RowKit
end Go.Abs
namespace Go.Proofs.YtfngcejaphhmmaaGreatDoor
open Go.Abs Go.Ds
set_option linter.unusedSimpArgs false
set_option linter.unusedVariables false
set_option maxRecDepth 20000
set_option maxHeartbeats 1000000
def encStr : Enc (List UInt8) := ⟨fun l => [.s (bs l)], 1, fun _ => rfl, fun _ => rfl⟩
theorem Sim.below {F : Fr} {ρ : Pl} {σ : List AB} {w w' : World} (h : Sim F ρ σ w) (hb : RowKit.Below w.heap.size w w') : Sim F ρ σ w' :=
  h.beside hb.os hb.tape hb.output hb.size hb.block
theorem strconv_Itoa_ (n : Int) (h0 : 0 ≤ n) (h1 : n < 100) {σ : List AB} {K : AV → List AB → Prop} (hk : K (.s (bs (decI n))) σ) : CallWp Tryz.prog n_strconv_Itoa [.i .i64 n] σ K := by
  refine ⟨⟨_, lays171.f171, by kernel_rfl, by kernel_rfl⟩, fun F ρ w vs hs hv => ?_⟩
  match vs, hv with
  | [v], hv =>
    have hv0 : v = .int .i64 n := by have := hv.1; simpa [M1, MC] using this
    subst hv0
    have c := Any.strconv_Itoa_small lays171 n.toNat (by omega) w
    rw [show ((n.toNat : Nat) : Int) = n by omega] at c
    refine Calls.mono (P := Tryz.prog) (f := n_strconv_Itoa) c ?_
    rintro e w' ⟨rfl, rfl⟩
    exact ⟨_, .s (bs (decI n)), σ, ρ, rfl, hs, Nat.le_refl _, fun _ _ => rfl, by simp [M, M1, MC, bs], hk⟩
theorem strconv_ItoaG_ (n : Int) (h0 : 0 ≤ n) (h1 : n ≤ 1000000000000) {σ : List AB} {g : Nat} (hg : σ[g]? = some (.gl (laysM171_ren.g 17) (.agg (Lib.pow10Tab.map fun z => Value.int .u64 z).toArray))) {K : AV → List AB → Prop} (hk : K (.s (bs (decI n))) σ) : CallWp Tryz.prog n_strconv_Itoa [.i .i64 n] σ K := by
  refine ⟨⟨_, laysM171.f171, by kernel_rfl, by kernel_rfl⟩, fun F ρ w vs hs hv => ?_⟩
  match vs, hv with
  | [v], hv =>
    have hv0 : v = .int .i64 n := by have := hv.1; simpa [M1, MC] using this
    subst hv0
    obtain ⟨ha, T, fr, hc⟩ := hs.bl g _ hg
    rw [ha] at hc
    have hn : Tryz.prog.globalNamed "internal/strconv.uint64pow10" = some (laysM171_ren.g 17) := by kernel_rfl
    have htab : Lib.TabIs Tryz.prog w "internal/strconv.uint64pow10" .u64 Lib.pow10Tab := by
      unfold Lib.TabIs World.var?
      rw [hn]
      simp only [Option.bind_some, hc]
      rfl
    have c := Any.strconv_Itoa laysM171 n (by omega) (by omega) w htab
    refine Calls.mono (P := Tryz.prog) (f := n_strconv_Itoa) c ?_
    rintro e w' ⟨rfl, k, os, rfl⟩
    have e1 : Lib.itoa n = decI n := by unfold Lib.itoa; rw [if_neg (by omega)]
    rw [e1]
    exact ⟨_, .s (bs (decI n)), σ, ρ, rfl, Sim.below hs (Lib.below_grow _ w (Nat.le_refl _) k os), Nat.le_refl _, fun _ _ => rfl, by simp [M, M1, MC, bs], hk⟩
theorem split_vals {ρ : Pl} {N : Nat} : ∀ (l : List ByteArray), MCs ρ N (encStr.row (l.map (·.data.toList))) (l.map Value.string)
  | [] => trivial
  | a :: l => by
    have h : encStr.row ((a :: l).map (·.data.toList)) = .s (bs a.data.toList) :: encStr.row (l.map (·.data.toList)) := rfl
    rw [h, bs_of]
    exact ⟨by simp [MC], split_vals l⟩
theorem strings_Split_ (l : List UInt8) (hl : l.length < 4294967281) {σ : List AB} {K : AV → List AB → Prop} (hk : K (.sl σ.length 0 (fields l).length (fields l).length) (σ ++ [.rw ty_string (encStr.row (fields l)) (fields l).length])) :
    CallWp Tryz.prog n_strings_Split [.s (bs l), .s (bs [32])] σ K := by
  refine ⟨⟨_, lays146.f146, by kernel_rfl, by kernel_rfl⟩, fun F ρ w vs hs hv => ?_⟩
  match vs, hv with
  | [v, u], hv =>
    have hv0 : v = .string (bs l) := by have := hv.1; simpa [M1, MC] using this
    have hu0 : u = .string ⟨#[32]⟩ := by have := hv.2.1; simpa [M1, MC, bs] using this
    subst hv0 hu0
    have c := split_one lays146 (by kernel_rfl) (bs l) 32 w (by rw [bs_size]; exact hl)
    have hmap : (Lib.splitB ⟨#[32]⟩ 0 (Lib.countB (bs l) ⟨#[32]⟩) (bs l)).map (·.data.toList) = fields l := by
      rw [Lib.splitB_data]
      show Lib.splitK [32] 0 (Lib.count (bs l).data.toList [32]) (bs l).data.toList = _
      rw [bs_data, split_fields]
    have hcnt : Lib.countB (bs l) ⟨#[32]⟩ + 1 = (fields l).length := by
      have := Lib.splitB_all ⟨#[32]⟩ (Nat.le_refl _) 0 _ (bs l) rfl
      rw [← this, ← hmap, List.length_map]
    rw [hcnt] at c
    refine Calls.mono (P := Tryz.prog) (f := n_strings_Split) c ?_
    rintro e w' ⟨rfl, rfl⟩
    have ha := hs.alloc ty_string (encStr.row (fields l)) _ [] (by rw [← hmap]; exact split_vals _)
    simp only [List.append_nil, List.length_nil, Nat.add_zero] at ha
    rw [show ((Lib.splitB ⟨#[32]⟩ 0 (Lib.countB (bs l) ⟨#[32]⟩) (bs l)).map Value.string).length = (fields l).length by rw [← hmap]; simp] at ha
    refine ⟨_, _, _, plus ρ σ.length (w.heap.size, 0), rfl, ha, by simp, fun n hn => plus_old _ _ _ hn, ?_, hk⟩
    simp only [M, M1, MC]
    exact ⟨by simp, Nat.le_refl _, .inl (by simp [ad, plus_new])⟩
theorem strconv_Atoi_ (l : List UInt8) (hl : l.length ≤ 18) {σ : List AB} {g : Nat} {ev : Value} (hg : σ[g]? = some (.gl (laysC172_ren.g 15) ev)) (hev : ev = .nilIface ∨ ∃ te pe, ev = .iface te pe) {K : AV → List AB → Prop}
    (hs : ∀ n, Lib.atoi l = some n → K (.tup [.i .i64 n, .ex .nilIface]) σ) (hn : Lib.atoi l = none → ∀ t v, K (.tup [.i .i64 0, .ex (.iface t v)]) σ) : CallWp Tryz.prog n_strconv_Atoi [.s (bs l)] σ K := by
  refine ⟨⟨_, lays172.f172, by kernel_rfl, by kernel_rfl⟩, fun F ρ w vs hsim hv => ?_⟩
  match vs, hv with
  | [v], hv =>
    have hv0 : v = .string (bs l) := by have := hv.1; simpa [M1, MC] using this
    subst hv0
    cases h : Lib.atoi l with
    | some n =>
      have c := Any.strconv_Atoi lays172 (bs l) n (by rw [bs_size]; exact hl) (by rw [bs_data]; exact h) w
      refine Calls.mono (P := Tryz.prog) (f := n_strconv_Atoi) c ?_
      rintro e w' ⟨rfl, t, rfl⟩
      exact ⟨_, .tup [.i .i64 n, .ex .nilIface], σ, ρ, rfl, Sim.below hsim (Lib.bytesWorld_below w _ t), Nat.le_refl _, fun _ _ => rfl, ⟨[.int .i64 n, .nilIface], rfl, by simp [M1s, M1, MC, Value.oneCell']⟩, hs n h⟩
    | none =>
      obtain ⟨ha, T, fr, hc⟩ := hsim.bl g _ hg
      have hcell : w.cell? ⟨laysC172_ren.g 15, 0, none⟩ = some ev := by
        rw [ha] at hc
        have he : ev.cells[0]? = some ev := by
          rcases hev with rfl | ⟨te, pe, rfl⟩ <;> rfl
        simp [World.cell?, hc, he]
      have c := Any.strconv_Atoi_err laysC172 (bs l) (by rw [bs_size]; exact hl) (by rw [bs_data]; exact h) ev w hcell hev
      refine Calls.mono (P := Tryz.prog) (f := n_strconv_Atoi) c ?_
      rintro e w' ⟨N, rfl, _, _, hb⟩
      exact ⟨_, .tup [.i .i64 0, .ex (.iface (laysC172_ren.t 168) (.pointer (some ⟨N, 0, none⟩)))], σ, ρ, rfl, Sim.below hsim hb, Nat.le_refl _, fun _ _ => rfl, ⟨[_, _], rfl, by simp [M1s, M1, MC, Value.oneCell']⟩, hn h _ _⟩
end Go.Proofs.YtfngcejaphhmmaaGreatDoor
/- Contracts: a task as a line of text, of the program and of the reference. -/
namespace Go.Proofs.YtfngcejaphhmmaaGreatDoor
open Go.Abs Go.Ds
set_option linter.unusedSimpArgs false
set_option linter.unusedVariables false
set_option maxRecDepth 20000
set_option maxHeartbeats 2000000
theorem lenS (L : List (List UInt8)) : (encStr.row L).length = L.length := by simpa [encStr] using encStr.row_length L
theorem rdS {L : List (List UInt8)} {k : Nat} (h : k < L.length) : rd (encStr.row L) k = .s (bs (L[k]'h)) := by simpa [encStr, rd] using encStr.rd L k 0 h (by decide)
theorem appS (L : List (List UInt8)) (a : List UInt8) : encStr.row L ++ [.s (bs a)] = encStr.row (L ++ [a]) := by rw [encStr.row_append, encStr.row_one]; rfl
theorem takeS (L : List (List UInt8)) : (encStr.row L).take L.length = encStr.row L := List.take_of_length_le (by rw [lenS]; omega)
theorem toBy1 (a : Int) : toBy [.i .u8 a] = [UInt8.ofNat a.toNat] := rfl
theorem isBy1 (a : Int) : isBy [.i .u8 a] = true := rfl
/-! ### the program's lines -/
theorem fmt_form {t : Task} (h : t.ok) : ((((([116, 97, 115, 107, 32] : List UInt8) ++ decI t.C) ++ [32]) ++ decI t.D) ++ [32]) ++ decI t.P = fmtT t := by
  rw [fmtT, if_pos h]
  simp [wTask, List.append_assoc]
theorem dec_lenle (n : Nat) : (Lib.decDigits n).length ≤ n + 1 := by
  induction n using Nat.strongRecOn with
  | _ n ih =>
    rw [Lib.decDigits]
    split
    · simp
    · have := ih (n / 10) (by omega)
      rw [List.length_append, List.length_cons, List.length_nil]; omega
theorem dec_small {n : Int} (h0 : 0 ≤ n) (h : n < 100) : (decI n).length ≤ 2 := (dec_len h0 h).1
theorem impl_FormatTask0 (t : Task) : CallWp Tryz.prog n_impl_FormatTask [.agg (encTask.f t)] [] (fun x σ => x = .s (bs (fmtT t)) ∧ σ = []) := by
  refine call_impl_FormatTask (by simp) ?_
  have e4 : encTask.f t = [.i .i64 t.C, .i .i64 t.D, .i .i64 t.P] := rfl
  rw [e4]
  simp only [c_impl_FormatTask, not_true_eq_false, not_false_eq_true, decide_true, decide_false, Bool.not_true, Bool.not_false, false_implies, true_implies, and_true, true_and, Bool.false_eq_true, Bool.true_eq_false, implies_true, Bool.not_not, Classical.not_not, go_sem, Int.reduceToNat, List.take_nil, Nat.zero_mul, Nat.reduceEqDiff, Nat.reduceAdd, Nat.reduceLT, Nat.reduceLeDiff, Nat.reduceMul, ↓reduceIte, reduceCtorEq]
  refine impl_TaskValid_ t ?_
  simp only [not_true_eq_false, not_false_eq_true, decide_true, decide_false, Bool.not_true, Bool.not_false, false_implies, true_implies, and_true, true_and, Bool.false_eq_true, Bool.true_eq_false, implies_true, Bool.not_not, Classical.not_not, go_sem, Int.reduceToNat, List.take_nil, Nat.zero_mul, Nat.reduceEqDiff, Nat.reduceAdd, Nat.reduceLT, Nat.reduceLeDiff, Nat.reduceMul, ↓reduceIte, reduceCtorEq]
  refine ⟨fun hno => ?_, fun hok => ?_⟩
  · rw [show fmtT t = [] from if_neg hno]
    exact Fin.pick [] (.s (bs [])) [] ⟨rfl, rfl⟩
  · have ht := hok
    unfold Task.ok at ht
    have l1 := dec_small (n := t.C) (by omega) (by omega)
    have l2 := dec_small (n := t.D) (by omega) (by omega)
    have l3 := dec_small (n := t.P) (by omega) (by omega)
    refine onCall.by (strconv_Itoa_ t.C (by omega) (by omega) ⟨rfl, rfl⟩) ?_
    simp only [List.length_append, List.length_cons, List.length_nil, not_true_eq_false, not_false_eq_true, decide_true, decide_false, Bool.not_true, Bool.not_false, false_implies, true_implies, and_true, true_and, Bool.false_eq_true, Bool.true_eq_false, implies_true, Bool.not_not, Classical.not_not, go_sem, Int.reduceToNat, List.take_nil, Nat.zero_mul, Nat.reduceEqDiff, Nat.reduceAdd, Nat.reduceLT, Nat.reduceLeDiff, Nat.reduceMul, ↓reduceIte, reduceCtorEq]
    refine ⟨by omega, by omega, onCall.by (strconv_Itoa_ t.D (by omega) (by omega) ⟨rfl, rfl⟩) ?_⟩
    simp only [List.length_append, List.length_cons, List.length_nil, not_true_eq_false, not_false_eq_true, decide_true, decide_false, Bool.not_true, Bool.not_false, false_implies, true_implies, and_true, true_and, Bool.false_eq_true, Bool.true_eq_false, implies_true, Bool.not_not, Classical.not_not, go_sem, Int.reduceToNat, List.take_nil, Nat.zero_mul, Nat.reduceEqDiff, Nat.reduceAdd, Nat.reduceLT, Nat.reduceLeDiff, Nat.reduceMul, ↓reduceIte, reduceCtorEq]
    refine ⟨by omega, by omega, onCall.by (strconv_Itoa_ t.P (by omega) (by omega) ⟨rfl, rfl⟩) ?_⟩
    simp only [List.length_append, List.length_cons, List.length_nil, not_true_eq_false, not_false_eq_true, decide_true, decide_false, Bool.not_true, Bool.not_false, false_implies, true_implies, and_true, true_and, Bool.false_eq_true, Bool.true_eq_false, implies_true, Bool.not_not, Classical.not_not, go_sem, Int.reduceToNat, List.take_nil, Nat.zero_mul, Nat.reduceEqDiff, Nat.reduceAdd, Nat.reduceLT, Nat.reduceLeDiff, Nat.reduceMul, ↓reduceIte, reduceCtorEq]
    refine ⟨by omega, ?_⟩
    have e : (116 :: 97 :: 115 :: 107 :: 32 :: (decI t.C ++ [32] ++ decI t.D ++ [32] ++ decI t.P) : List UInt8) = fmtT t := by rw [← fmt_form hok]; simp
    rw [e]
    exact Fin.pick [] (.s (bs (fmtT t))) [] ⟨rfl, rfl⟩
theorem impl_FormatTask_ (t : Task) {σ : List AB} {K : AV → List AB → Prop} (hk : K (.s (bs (fmtT t))) σ) : CallWp Tryz.prog n_impl_FormatTask [.agg (encTask.f t)] σ K :=
  call0 (impl_FormatTask0 t) rfl rfl hk
theorem spec_l10Plain0 (n : Nat) (hn : n ≤ 1000000000) : CallWp Tryz.prog n_spec_l10Plain [.i .i64 n] [] (fun x σ => x = .s (bs (Lib.decDigits n)) ∧ σ = []) := by
  refine call_spec_l10Plain (by simp) ?_
  simp only [c_spec_l10Plain, not_true_eq_false, not_false_eq_true, decide_true, decide_false, Bool.not_true, Bool.not_false, false_implies, true_implies, and_true, true_and, Bool.false_eq_true, Bool.true_eq_false, implies_true, Bool.not_not, Classical.not_not, go_sem, Int.reduceToNat, List.take_nil, Nat.zero_mul, Nat.reduceEqDiff, Nat.reduceAdd, Nat.reduceLT, Nat.reduceLeDiff, Nat.reduceMul, ↓reduceIte, reduceCtorEq]
  refine loop_intro (fun s : Nat × List UInt8 => ⟨[(0, .i .i64 s.1), (3, .s (bs s.2))], []⟩) (fun s => s.1 ≤ n ∧ Lib.decDigits s.1 ++ s.2 = Lib.decDigits n) (fun s => s.1) (n, []) ⟨Nat.le_refl _, by simp⟩ (Wk.pick []) ?_
  rintro ⟨m, out⟩ ⟨h1, h3⟩
  simp only at h1 h3
  have hlen : out.length ≤ n + 1 := by
    have := dec_lenle n
    rw [← h3, List.length_append] at this; omega
  have e1 : (m : Int).tmod 10 = ((m % 10 : Nat) : Int) := by rw [Int.tmod_eq_emod_of_nonneg (by omega)]; omega
  have e2 : (m : Int).tdiv 10 = ((m / 10 : Nat) : Int) := by rw [Int.tdiv_eq_ediv_of_nonneg (by omega)]; omega
  have e3 : (48 + ((m % 10 : Nat) : Int)).toNat = 48 + m % 10 := by omega
  have e4 : (48 + (m : Int)).toNat = 48 + m := by omega
  simp only [l0_spec_l10Plain, e1, e2, toBy1, isBy1, e3, e4, not_true_eq_false, not_false_eq_true, decide_true, decide_false, Bool.not_true, Bool.not_false, false_implies, true_implies, and_true, true_and, Bool.false_eq_true, Bool.true_eq_false, implies_true, Bool.not_not, Classical.not_not, go_sem, Int.reduceToNat, List.take_nil, Nat.zero_mul, Nat.reduceEqDiff, Nat.reduceAdd, Nat.reduceLT, Nat.reduceLeDiff, Nat.reduceMul, ↓reduceIte, reduceCtorEq]
  refine ⟨fun hgt => ?_, fun hle => ?_⟩
  · have hd : Lib.decDigits m = Lib.decDigits (m / 10) ++ [UInt8.ofNat (48 + m % 10)] := by rw [Lib.decDigits, dif_neg (by omega)]
    refine ⟨by omega, by omega, by omega, by omega, by omega, by omega, (m / 10, UInt8.ofNat (48 + m % 10) :: out), ⟨⟨by simp only; omega, ?_⟩, by simp only; omega⟩, Wk.pick []⟩
    show Lib.decDigits (m / 10) ++ (UInt8.ofNat (48 + m % 10) :: out) = _
    rw [← h3, hd]; simp
  · have hd : Lib.decDigits m = [UInt8.ofNat (48 + m)] := by rw [Lib.decDigits, dif_pos (by omega)]
    refine ⟨by omega, by omega, by omega, ?_⟩
    rw [← h3, hd]
    exact Fin.pick [] (.s (bs ([UInt8.ofNat (48 + m)] ++ out))) [] ⟨rfl, rfl⟩
theorem spec_l10Plain_ (n : Nat) (hn : n ≤ 1000000000) {σ : List AB} {K : AV → List AB → Prop} (hk : K (.s (bs (Lib.decDigits n))) σ) : CallWp Tryz.prog n_spec_l10Plain [.i .i64 n] σ K :=
  call0 (spec_l10Plain0 n hn) rfl rfl hk
theorem spec_l10PlainI (n : Int) (h0 : 0 ≤ n) (hn : n ≤ 1000000000) {σ : List AB} {K : AV → List AB → Prop} (hk : K (.s (bs (decI n))) σ) : CallWp Tryz.prog n_spec_l10Plain [.i .i64 n] σ K := by
  obtain ⟨m, rfl⟩ : ∃ m : Nat, n = m := ⟨n.toNat, by omega⟩
  refine spec_l10Plain_ m (by omega) ?_
  rwa [decI_nat] at hk
theorem spec_FormatTask0 (t : Task) : CallWp Tryz.prog n_spec_FormatTask [.agg (encTask.f t)] [] (fun x σ => x = .s (bs (fmtT t)) ∧ σ = []) := by
  refine call_spec_FormatTask (by simp) ?_
  have e4 : encTask.f t = [.i .i64 t.C, .i .i64 t.D, .i .i64 t.P] := rfl
  rw [e4]
  simp only [c_spec_FormatTask, not_true_eq_false, not_false_eq_true, decide_true, decide_false, Bool.not_true, Bool.not_false, false_implies, true_implies, and_true, true_and, Bool.false_eq_true, Bool.true_eq_false, implies_true, Bool.not_not, Classical.not_not, go_sem, Int.reduceToNat, List.take_nil, Nat.zero_mul, Nat.reduceEqDiff, Nat.reduceAdd, Nat.reduceLT, Nat.reduceLeDiff, Nat.reduceMul, ↓reduceIte, reduceCtorEq]
  refine spec_TaskValid_ t ?_
  simp only [not_true_eq_false, not_false_eq_true, decide_true, decide_false, Bool.not_true, Bool.not_false, false_implies, true_implies, and_true, true_and, Bool.false_eq_true, Bool.true_eq_false, implies_true, Bool.not_not, Classical.not_not, go_sem, Int.reduceToNat, List.take_nil, Nat.zero_mul, Nat.reduceEqDiff, Nat.reduceAdd, Nat.reduceLT, Nat.reduceLeDiff, Nat.reduceMul, ↓reduceIte, reduceCtorEq]
  refine ⟨fun hno => ?_, fun hok => ?_⟩
  · rw [show fmtT t = [] from if_neg hno]
    exact Fin.pick [] (.s (bs [])) [] ⟨rfl, rfl⟩
  · have ht := hok
    unfold Task.ok at ht
    have l1 := dec_small (n := t.C) (by omega) (by omega)
    have l2 := dec_small (n := t.D) (by omega) (by omega)
    have l3 := dec_small (n := t.P) (by omega) (by omega)
    refine onCall.by (spec_l10PlainI t.C (by omega) (by omega) ⟨rfl, rfl⟩) ?_
    simp only [List.length_append, List.length_cons, List.length_nil, not_true_eq_false, not_false_eq_true, decide_true, decide_false, Bool.not_true, Bool.not_false, false_implies, true_implies, and_true, true_and, Bool.false_eq_true, Bool.true_eq_false, implies_true, Bool.not_not, Classical.not_not, go_sem, Int.reduceToNat, List.take_nil, Nat.zero_mul, Nat.reduceEqDiff, Nat.reduceAdd, Nat.reduceLT, Nat.reduceLeDiff, Nat.reduceMul, ↓reduceIte, reduceCtorEq]
    refine ⟨by omega, by omega, onCall.by (spec_l10PlainI t.D (by omega) (by omega) ⟨rfl, rfl⟩) ?_⟩
    simp only [List.length_append, List.length_cons, List.length_nil, not_true_eq_false, not_false_eq_true, decide_true, decide_false, Bool.not_true, Bool.not_false, false_implies, true_implies, and_true, true_and, Bool.false_eq_true, Bool.true_eq_false, implies_true, Bool.not_not, Classical.not_not, go_sem, Int.reduceToNat, List.take_nil, Nat.zero_mul, Nat.reduceEqDiff, Nat.reduceAdd, Nat.reduceLT, Nat.reduceLeDiff, Nat.reduceMul, ↓reduceIte, reduceCtorEq]
    refine ⟨by omega, by omega, onCall.by (spec_l10PlainI t.P (by omega) (by omega) ⟨rfl, rfl⟩) ?_⟩
    simp only [List.length_append, List.length_cons, List.length_nil, not_true_eq_false, not_false_eq_true, decide_true, decide_false, Bool.not_true, Bool.not_false, false_implies, true_implies, and_true, true_and, Bool.false_eq_true, Bool.true_eq_false, implies_true, Bool.not_not, Classical.not_not, go_sem, Int.reduceToNat, List.take_nil, Nat.zero_mul, Nat.reduceEqDiff, Nat.reduceAdd, Nat.reduceLT, Nat.reduceLeDiff, Nat.reduceMul, ↓reduceIte, reduceCtorEq]
    refine ⟨by omega, ?_⟩
    have e : (116 :: 97 :: 115 :: 107 :: 32 :: (decI t.C ++ [32] ++ decI t.D ++ [32] ++ decI t.P) : List UInt8) = fmtT t := by rw [← fmt_form hok]; simp
    rw [e]
    exact Fin.pick [] (.s (bs (fmtT t))) [] ⟨rfl, rfl⟩
theorem spec_FormatTask_ (t : Task) {σ : List AB} {K : AV → List AB → Prop} (hk : K (.s (bs (fmtT t))) σ) : CallWp Tryz.prog n_spec_FormatTask [.agg (encTask.f t)] σ K :=
  call0 (spec_FormatTask0 t) rfl rfl hk
/-! ### words as numbers -/
theorem val_le2 {s : List UInt8} (h : s.length ≤ 2) (hd : ∀ b ∈ s, 48 ≤ b.toNat ∧ b.toNat ≤ 57) : valD s < 100 := by
  match s, h with
  | [], _ => decide
  | [a], _ => have := hd a (by simp); simp [valD]; omega
  | [a, b], _ => have := hd a (by simp); have := hd b (by simp); simp [valD]; omega
theorem spec_l10Num0 (s : List UInt8) : CallWp Tryz.prog n_spec_l10Num [.s (bs s)] [] (fun x σ => x = .i .i64 (num10 s) ∧ σ = []) := by
  refine call_spec_l10Num (by simp) ?_
  have hlen : ∀ n : Nat, n < 100 → (Lib.decDigits n).length ≤ 2 ∧ 1 ≤ (Lib.decDigits n).length := fun n h => by
    have := dec_len (n := (n : Int)) (by omega) (by omega)
    rwa [decI_nat] at this
  have bad : ∀ b : UInt8, b ∈ s → ¬ (48 ≤ b.toNat ∧ b.toNat ≤ 57) → num10 s = -1 := fun b hb hn => num10_none fun n _ e => hn (dec_digit n b (e ▸ hb))
  simp only [c_spec_l10Num, not_true_eq_false, not_false_eq_true, decide_true, decide_false, Bool.not_true, Bool.not_false, false_implies, true_implies, and_true, true_and, Bool.false_eq_true, Bool.true_eq_false, implies_true, Bool.not_not, Classical.not_not, go_sem, Int.reduceToNat, List.take_nil, Nat.zero_mul, Nat.reduceEqDiff, Nat.reduceAdd, Nat.reduceLT, Nat.reduceLeDiff, Nat.reduceMul, ↓reduceIte, reduceCtorEq]
  have fin : ∀ v : Int, num10 s = v → Fin 0 [] (.i .i64 v) (fun x σ => x = .i .i64 (num10 s) ∧ σ = []) := fun v e => by
    rw [← e]; exact Fin.pick [] (.i .i64 (num10 s)) [] ⟨rfl, rfl⟩
  refine ⟨fun h0 => ⟨fun h2 => fin _ (num10_none fun n hn e => ?_), fun h2 => ?_⟩, fun h0 => fin _ (num10_none fun n hn e => ?_)⟩
  · have := hlen n hn; rw [← e] at this; omega
  · refine loop_count s.length (fun k => ⟨[(0, .s (bs s)), (3, .i .i64 (valD (s.take k))), (4, .i .i64 k)], []⟩) (fun k => ∀ b ∈ s.take k, 48 ≤ b.toNat ∧ b.toNat ≤ 57) (by simp) (Wk.pick [] (by simp [seesT, belowT, below1, below, sees, ren, ren1, renC, rnp, nat2, look_cons, valD])) fun k hk hJ => ?_
    have hv := val_le2 (s := s.take k) (by rw [List.length_take]; omega) hJ
    simp only [l0_spec_l10Num, not_true_eq_false, not_false_eq_true, decide_true, decide_false, Bool.not_true, Bool.not_false, false_implies, true_implies, and_true, true_and, Bool.false_eq_true, Bool.true_eq_false, implies_true, Bool.not_not, Classical.not_not, go_sem, Int.reduceToNat, List.take_nil, Nat.zero_mul, Nat.reduceEqDiff, Nat.reduceAdd, Nat.reduceLT, Nat.reduceLeDiff, Nat.reduceMul, ↓reduceIte, reduceCtorEq]
    refine ⟨fun hlt => ?_, fun hge => ?_⟩
    · have hget : s.getD k 0 = s[k] := by simp [List.getD_eq_getElem?_getD, hlt]
      have hm : s[k] ∈ s := List.getElem_mem _
      have hu := (s[k]).toNat_lt
      have hvs : ¬ (s[k]).toNat < 48 → (((valD (s.take k) : Nat) : Int) * 10 + (((s[k]).toNat : Nat) - 48) = ((valD (s.take (k + 1)) : Nat) : Int)) := fun h => by
        rw [List.take_succ_eq_append_getElem hlt, valD_snoc]; omega
      simp only [hget, not_true_eq_false, not_false_eq_true, decide_true, decide_false, Bool.not_true, Bool.not_false, false_implies, true_implies, and_true, true_and, Bool.false_eq_true, Bool.true_eq_false, implies_true, Bool.not_not, Classical.not_not, go_sem, Int.reduceToNat, List.take_nil, Nat.zero_mul, Nat.reduceEqDiff, Nat.reduceAdd, Nat.reduceLT, Nat.reduceLeDiff, Nat.reduceMul, ↓reduceIte, reduceCtorEq]
      refine ⟨hlt, fun h48 => ⟨hlt, fun h57 => fin _ (bad _ hm (by omega)), fun h57 => ⟨by omega, hlt, by omega, by omega, by omega, by omega, ⟨hlt, ?_⟩, ?_⟩⟩, fun h48 => fin _ (bad _ hm (by omega))⟩
      · rw [all_take_succ hlt]; exact ⟨hJ, by omega⟩
      · rw [hvs (by omega)]; exact Wk.pick []
    · obtain rfl : k = s.length := by omega
      rw [List.take_length] at hv hJ ⊢
      refine spec_l10Plain_ (valD s) (by omega) ?_
      simp only [bs_inj, not_true_eq_false, not_false_eq_true, decide_true, decide_false, Bool.not_true, Bool.not_false, false_implies, true_implies, and_true, true_and, Bool.false_eq_true, Bool.true_eq_false, implies_true, Bool.not_not, Classical.not_not, go_sem, Int.reduceToNat, List.take_nil, Nat.zero_mul, Nat.reduceEqDiff, Nat.reduceAdd, Nat.reduceLT, Nat.reduceLeDiff, Nat.reduceMul, ↓reduceIte, reduceCtorEq]
      refine ⟨fun hne => fin _ (num10_none fun n hn e => hne ?_), fun he => fin _ ?_⟩
      · rw [e, valD_dec]
      · have h5 := num10_dec hv
        rwa [he] at h5
  · have := hlen n hn; rw [← e] at this; omega
theorem spec_l10Num_ (s : List UInt8) {σ : List AB} {K : AV → List AB → Prop} (hk : K (.i .i64 (num10 s)) σ) : CallWp Tryz.prog n_spec_l10Num [.s (bs s)] σ K :=
  call0 (spec_l10Num0 s) rfl rfl hk
/-! ### the fields -/
theorem consW_len (w : List UInt8) (f : List (List UInt8)) : (consW w f).length = max 1 f.length := by cases f <;> simp [consW]
theorem fields_len : ∀ l : List UInt8, (fields l).length ≤ l.length + 1
  | [] => by simp [fields]
  | c :: l => by
    have := fields_len l
    by_cases h : c = 32
    · subst h; rw [fields_sep]; simp; omega
    · rw [fields_chr h, consW_len]; simp; omega
def FldR (l : List UInt8) (x : AV) (τ : List AB) : Prop := ∃ cap cc, x = .sl 0 0 (fields l).length cap ∧ τ = [.rw ty_string (encStr.row (fields l)) cc]
theorem FldR.fr {l : List UInt8} {x : AV} {τ : List AB} (h : FldR l x τ) : τ.all plainRw = true ∧ freshA 0 x = true := by
  obtain ⟨cap, cc, rfl, rfl⟩ := h
  simp [plainRw, encStr.row_flat, freshA, fresh1A, freshC]
theorem spec_l10Fields0 (l : List UInt8) (hl : l.length ≤ 1000000) : CallWp Tryz.prog n_spec_l10Fields [.s (bs l)] [] (fun x σ' => ∃ τ, σ' = [] ++ τ ∧ FldR l x τ) := by
  refine call_spec_l10Fields (by simp) ?_
  simp only [c_spec_l10Fields, not_true_eq_false, not_false_eq_true, decide_true, decide_false, Bool.not_true, Bool.not_false, false_implies, true_implies, and_true, true_and, Bool.false_eq_true, Bool.true_eq_false, implies_true, Bool.not_not, Classical.not_not, go_sem, Int.reduceToNat, List.take_nil, Nat.zero_mul, Nat.reduceEqDiff, Nat.reduceAdd, Nat.reduceLT, Nat.reduceLeDiff, Nat.reduceMul, ↓reduceIte, reduceCtorEq]
  refine loop_intro (fun s : Nat × List (List UInt8) × List UInt8 × Nat => ⟨[(0, .s (bs l)), (3, .sl 0 0 s.2.1.length s.2.2.2), (4, .s (bs s.2.2.1)), (5, .i .i64 s.1)], [.rw ty_string (encStr.row s.2.1) s.2.2.2]⟩)
    (fun s => s.1 ≤ l.length ∧ s.2.1 ++ consW s.2.2.1 (fields (l.drop s.1)) = fields l ∧ s.2.2.1.length ≤ s.1) (fun s => l.length - s.1) (0, [], [], 0) ⟨Nat.zero_le _, by simp [consW_nil _ (fields_ne l)], Nat.le_refl _⟩ (Wk.pick [0]) ?_
  rintro ⟨i, F, w, cap⟩ ⟨h1, h2, h3⟩
  simp only at h1 h2 h3
  have hF : F.length ≤ l.length + 1 := by
    have := fields_len l
    rw [← h2, List.length_append] at this; omega
  simp only [l0_spec_l10Fields, not_true_eq_false, not_false_eq_true, decide_true, decide_false, Bool.not_true, Bool.not_false, false_implies, true_implies, and_true, true_and, Bool.false_eq_true, Bool.true_eq_false, implies_true, Bool.not_not, Classical.not_not, go_sem, Int.reduceToNat, List.take_nil, Nat.zero_mul, Nat.reduceEqDiff, Nat.reduceAdd, Nat.reduceLT, Nat.reduceLeDiff, Nat.reduceMul, ↓reduceIte, reduceCtorEq]
  refine ⟨fun hlt => ?_, fun hge => ?_⟩
  · have hget : l.getD i 0 = l[i] := by simp [List.getD_eq_getElem?_getD, hlt]
    have hdr : l.drop i = l[i] :: l.drop (i + 1) := List.drop_eq_getElem_cons hlt
    have hsub : (l.take (i + 1)).drop i = [l[i]] := by rw [List.take_succ_eq_append_getElem hlt, List.drop_append_of_le_length (by rw [List.length_take]; omega)]; simp
    have hi1 : ((i : Int) + 1).toNat = i + 1 := by omega
    simp only [hget, hi1, hsub, lenS, takeS, appS, List.length_append, List.length_cons, List.length_nil, not_true_eq_false, not_false_eq_true, decide_true, decide_false, Bool.not_true, Bool.not_false, false_implies, true_implies, and_true, true_and, Bool.false_eq_true, Bool.true_eq_false, implies_true, Bool.not_not, Classical.not_not, go_sem, Int.reduceToNat, List.take_nil, Nat.zero_mul, Nat.reduceEqDiff, Nat.reduceAdd, Nat.reduceLT, Nat.reduceLeDiff, Nat.reduceMul, ↓reduceIte, reduceCtorEq]
    refine ⟨hlt, fun he => ⟨⟨by omega, by omega, by omega⟩, fun cap' hc => ?_⟩, fun hne => ?_⟩
    · have hc32 : l[i] = 32 := UInt8.toNat_inj.1 (by show (l[i]).toNat = 32; omega)
      refine ⟨by omega, (i + 1, F ++ [w], [], cap'), ⟨⟨by simp only; omega, ?_, Nat.zero_le _⟩, by simp only; omega⟩, ?_⟩
      · show (F ++ [w]) ++ consW [] (fields (l.drop (i + 1))) = fields l
        rw [← h2, hdr, hc32, fields_sep, consW_nil _ (fields_ne _)]
        simp [consW]
      · simp only [List.length_append, List.length_cons, List.length_nil]
        exact Wk.pick [2]
    · have hc32 : l[i] ≠ 32 := fun e => hne (by rw [e]; rfl)
      refine ⟨by omega, by omega, by omega, by omega, by omega, (i + 1, F, w ++ [l[i]], cap), ⟨⟨by simp only; omega, ?_, ?_⟩, by simp only; omega⟩, Wk.pick [0]⟩
      · show F ++ consW (w ++ [l[i]]) (fields (l.drop (i + 1))) = fields l
        rw [← h2, hdr, fields_chr hc32, consW_consW]
      · simp only [List.length_append, List.length_cons, List.length_nil]; omega
  · obtain rfl : i = l.length := by omega
    simp only [lenS, takeS, appS, List.length_append, List.length_cons, List.length_nil, not_true_eq_false, not_false_eq_true, decide_true, decide_false, Bool.not_true, Bool.not_false, false_implies, true_implies, and_true, true_and, Bool.false_eq_true, Bool.true_eq_false, implies_true, Bool.not_not, Classical.not_not, go_sem, Int.reduceToNat, List.take_nil, Nat.zero_mul, Nat.reduceEqDiff, Nat.reduceAdd, Nat.reduceLT, Nat.reduceLeDiff, Nat.reduceMul, ↓reduceIte, reduceCtorEq]
    have hF2 : F ++ [w] = fields l := by
      rw [← h2, List.drop_length]; simp [fields, consW]
    refine ⟨⟨by omega, by omega, by omega⟩, fun cap' hc => ?_⟩
    have hFl : F.length + 1 = (fields l).length := by rw [← hF2]; simp
    rw [hF2, hFl]
    exact Fin.pick [2] (.sl 0 0 (fields l).length cap') [.rw ty_string (encStr.row (fields l)) cap'] ⟨_, rfl, cap', cap', rfl, rfl⟩
theorem spec_l10Fields_ (l : List UInt8) (hl : l.length ≤ 1000000) {σ : List AB} {K : AV → List AB → Prop} (hk : ∀ cap cc, K (.sl σ.length 0 (fields l).length cap) (σ ++ [.rw ty_string (encStr.row (fields l)) cc])) : CallWp Tryz.prog n_spec_l10Fields [.s (bs l)] σ K := by
  refine call_news [] (by simp) (fun _ => [.s (bs l)]) (FldR l) (fun _ => spec_l10Fields0 l hl) (fun _ _ h => h.fr) (fun ν c h => ⟨.inl rfl, trivial⟩) (fun _ => rfl) ?_
  rintro x τ ⟨cap, cc, rfl, rfl⟩
  exact hk cap cc
end Go.Proofs.YtfngcejaphhmmaaGreatDoor
/- Contracts: a line of text as a task, of the program and of the reference. -/
namespace Go.Proofs.YtfngcejaphhmmaaGreatDoor
open Go.Abs Go.Ds
set_option linter.unusedSimpArgs false
set_option linter.unusedVariables false
set_option maxRecDepth 20000
set_option maxHeartbeats 2000000
def tAV (t : Task) : AV := .agg [.i .i64 t.C, .i .i64 t.D, .i .i64 t.P]
noncomputable def parseAV (l : List UInt8) : AV := match parseT l with
  | some t => .tup [tAV t, .b true]
  | none => .tup [tAV ⟨0, 0, 0⟩, .b false]
theorem parseAV_some {l : List UInt8} {t : Task} (h : IsLine l t) : parseAV l = .tup [tAV t, .b true] := by unfold parseAV; rw [parse_some h]
theorem parseAV_none {l : List UInt8} (h : ¬ ∃ t, IsLine l t) : parseAV l = .tup [tAV ⟨0, 0, 0⟩, .b false] := by unfold parseAV; rw [parse_none h]
theorem spec_ParseTask0 (l : List UInt8) (hl : l.length ≤ 1000000) : CallWp Tryz.prog n_spec_ParseTask [.s (bs l)] [] (fun x σ => x = parseAV l ∧ σ = []) := by
  refine call_spec_ParseTask (by simp) ?_
  simp only [c_spec_ParseTask, not_true_eq_false, not_false_eq_true, decide_true, decide_false, Bool.not_true, Bool.not_false, false_implies, true_implies, and_true, true_and, Bool.false_eq_true, Bool.true_eq_false, implies_true, Bool.not_not, Classical.not_not, go_sem, Int.reduceToNat, List.take_nil, Nat.zero_mul, Nat.reduceEqDiff, Nat.reduceAdd, Nat.reduceLT, Nat.reduceLeDiff, Nat.reduceMul, ↓reduceIte, reduceCtorEq]
  refine spec_l10Fields_ l hl fun cap cc => ?_
  have hw : (bs [116, 97, 115, 107] : ByteArray) = bs wTask := rfl
  have no : ¬ (l.length ≤ 20 ∧ (fields l).length = 4 ∧ (fields l).getD 0 [] = wTask ∧ (specT (fields l)).ok) → parseAV l = .tup [tAV ⟨0, 0, 0⟩, .b false] := fun h => parseAV_none fun g => h (spec_line.2 g)
  have bad : ∀ σ : List AB, ¬ (l.length ≤ 20 ∧ (fields l).length = 4 ∧ (fields l).getD 0 [] = wTask ∧ (specT (fields l)).ok) → Fin 0 σ (.tup [.agg [.i .i64 0, .i .i64 0, .i .i64 0], .b false]) (fun x σ => x = parseAV l ∧ σ = []) := fun σ h => by
    refine Fin.pick [] (.tup [.agg [.i .i64 0, .i .i64 0, .i .i64 0], .b false]) [] ⟨(no h).symm, rfl⟩
  simp only [hw, bs_inj, not_true_eq_false, not_false_eq_true, decide_true, decide_false, Bool.not_true, Bool.not_false, false_implies, true_implies, and_true, true_and, Bool.false_eq_true, Bool.true_eq_false, implies_true, Bool.not_not, Classical.not_not, go_sem, Int.reduceToNat, List.take_nil, Nat.zero_mul, Nat.reduceEqDiff, Nat.reduceAdd, Nat.reduceLT, Nat.reduceLeDiff, Nat.reduceMul, ↓reduceIte, reduceCtorEq]
  refine ⟨fun h20 => ⟨fun h4 => ?_, fun h4 => bad _ fun h => h4 (by omega)⟩, fun h20 => bad _ fun h => by omega⟩
  match hf : fields l, (show (fields l).length = 4 by omega) with
  | [a, b, c, d], _ =>
    have hrow : encStr.row [a, b, c, d] = [.s (bs a), .s (bs b), .s (bs c), .s (bs d)] := rfl
    rw [hf] at bad no
    simp only [hrow, bs_inj, List.length_cons, List.length_nil, not_true_eq_false, not_false_eq_true, decide_true, decide_false, Bool.not_true, Bool.not_false, false_implies, true_implies, and_true, true_and, Bool.false_eq_true, Bool.true_eq_false, implies_true, Bool.not_not, Classical.not_not, go_sem, Int.reduceToNat, List.take_nil, Nat.zero_mul, Nat.reduceEqDiff, Nat.reduceAdd, Nat.reduceLT, Nat.reduceLeDiff, Nat.reduceMul, ↓reduceIte, reduceCtorEq]
    refine ⟨by omega, fun hne => bad _ fun h => hne h.2.2.1, fun he => ?_⟩
    subst he
    refine seq_join (fun _ : Unit => ⟨[(2, .p 0 0), (3, .b false), (5, .p 2 0)], [.rw ty_impl_Task [.i .i64 0, .i .i64 0, .i .i64 0] 3, .rw ty_string [.s (bs wTask), .s (bs b), .s (bs c), .s (bs d)] cc, .rw ty_impl_Task [.i .i64 (num10 b), .i .i64 (num10 c), .i .i64 (num10 d)] 3]⟩) (fun _ => True) ?_ ?_
    · simp only [not_true_eq_false, not_false_eq_true, decide_true, decide_false, Bool.not_true, Bool.not_false, false_implies, true_implies, and_true, true_and, Bool.false_eq_true, Bool.true_eq_false, implies_true, Bool.not_not, Classical.not_not, go_sem, Int.reduceToNat, List.take_nil, Nat.zero_mul, Nat.reduceEqDiff, Nat.reduceAdd, Nat.reduceLT, Nat.reduceLeDiff, Nat.reduceMul, ↓reduceIte, reduceCtorEq]
      repeat' first
        | omega
        | exact kJ_intro () trivial (Wk.pick [0, 1, 2])
        | (refine spec_l10Num_ _ ?_; simp only [not_true_eq_false, not_false_eq_true, decide_true, decide_false, Bool.not_true, Bool.not_false, false_implies, true_implies, and_true, true_and, Bool.false_eq_true, Bool.true_eq_false, implies_true, Bool.not_not, Classical.not_not, go_sem, Int.reduceToNat, List.take_nil, Nat.zero_mul, Nat.reduceEqDiff, Nat.reduceAdd, Nat.reduceLT, Nat.reduceLeDiff, Nat.reduceMul, ↓reduceIte, reduceCtorEq])
        | refine ⟨?_, ?_⟩
    · rintro _ _
      simp only [not_true_eq_false, not_false_eq_true, decide_true, decide_false, Bool.not_true, Bool.not_false, false_implies, true_implies, and_true, true_and, Bool.false_eq_true, Bool.true_eq_false, implies_true, Bool.not_not, Classical.not_not, go_sem, Int.reduceToNat, List.take_nil, Nat.zero_mul, Nat.reduceEqDiff, Nat.reduceAdd, Nat.reduceLT, Nat.reduceLeDiff, Nat.reduceMul, ↓reduceIte, reduceCtorEq]
      refine spec_TaskValid_ ⟨num10 b, num10 c, num10 d⟩ ?_
      simp only [not_true_eq_false, not_false_eq_true, decide_true, decide_false, Bool.not_true, Bool.not_false, false_implies, true_implies, and_true, true_and, Bool.false_eq_true, Bool.true_eq_false, implies_true, Bool.not_not, Classical.not_not, go_sem, Int.reduceToNat, List.take_nil, Nat.zero_mul, Nat.reduceEqDiff, Nat.reduceAdd, Nat.reduceLT, Nat.reduceLeDiff, Nat.reduceMul, ↓reduceIte, reduceCtorEq]
      have eT : specT [wTask, b, c, d] = ⟨num10 b, num10 c, num10 d⟩ := rfl
      refine ⟨fun hno => bad _ fun h => hno (by rw [← eT]; exact h.2.2.2), fun hok => ?_⟩
      obtain ⟨t, ht⟩ := spec_line.1 (⟨by omega, by rw [hf]; rfl, by rw [hf]; rfl, by rw [hf, eT]; exact hok⟩ : l.length ≤ 20 ∧ (fields l).length = 4 ∧ (fields l).getD 0 [] = wTask ∧ (specT (fields l)).ok)
      have e := spec_task ht
      rw [hf, eT] at e
      rw [parseAV_some ht, ← e]
      exact Fin.pick [] (.tup [.agg [.i .i64 (num10 b), .i .i64 (num10 c), .i .i64 (num10 d)], .b true]) [] ⟨rfl, rfl⟩
theorem spec_ParseTask_ (l : List UInt8) (hl : l.length ≤ 1000000) {σ : List AB} {K : AV → List AB → Prop} (hk : K (parseAV l) σ) : CallWp Tryz.prog n_spec_ParseTask [.s (bs l)] σ K := by
  refine call_news [] (by simp) (fun _ => [.s (bs l)]) (fun x τ => x = parseAV l ∧ τ = []) (fun _ => (spec_ParseTask0 l hl).mono fun x σ _ h => ⟨[], by rw [h.2]; rfl, h.1, rfl⟩) ?_ (fun ν c h => ⟨.inl rfl, trivial⟩) (fun _ => rfl) ?_
  · rintro x τ ⟨rfl, rfl⟩
    unfold parseAV
    split <;> simp [freshA, fresh1A, freshC, tAV, flat]
  · rintro x τ ⟨rfl, rfl⟩
    rw [List.append_nil]
    have : shift 0 σ.length (parseAV l) = parseAV l := by unfold parseAV; split <;> rfl
    show K (shift 0 σ.length (parseAV l)) σ
    rw [this]; exact hk
/-! ### the program's -/
theorem field_len {l : List UInt8} {a b c d : List UInt8} (h : fields l = [a, b, c, d]) : a.length + b.length + c.length + d.length + 3 = l.length := by
  rw [← join_fields l, h]
  simp only [joinS, List.length_append, List.length_cons]; omega
theorem impl_PT1_ {σ : List AB} {q n len cap g : Nat} {F : List (List UInt8)} {ev : Value} {i : Nat} (hi : i < F.length) (hl : F.length = len) (h18 : (F[i]).length ≤ 18) (h1 : cellsOf σ q = some [.sl n 0 len cap]) (h2 : cellsOf σ n = some (encStr.row F))
    (hg : σ[g]? = some (.gl (laysC172_ren.g 15) ev)) (hev : ev = .nilIface ∨ ∃ te pe, ev = .iface te pe) {K : AV → List AB → Prop} (hk : K (.i .i64 (aNum F[i])) σ) : CallWp Tryz.prog n_impl_ParseTask_1 [.i .i64 i, .p q 0] σ K := by
  subst hl
  refine call_impl_ParseTask_1 (by simp) ?_
  simp only [c_impl_ParseTask_1, onC_of h1, onC_of h2, rdS hi, lenS, not_true_eq_false, not_false_eq_true, decide_true, decide_false, Bool.not_true, Bool.not_false, false_implies, true_implies, and_true, true_and, Bool.false_eq_true, Bool.true_eq_false, implies_true, Bool.not_not, Classical.not_not, go_sem, Int.reduceToNat, List.take_nil, Nat.zero_mul, Nat.reduceEqDiff, Nat.reduceAdd, Nat.reduceLT, Nat.reduceLeDiff, Nat.reduceMul, ↓reduceIte, reduceCtorEq]
  refine ⟨hi, hi, strconv_Atoi_ F[i] h18 hg hev (fun n hn => ?_) fun hn t v => ?_⟩
  · simp only [not_true_eq_false, not_false_eq_true, decide_true, decide_false, Bool.not_true, Bool.not_false, false_implies, true_implies, and_true, true_and, Bool.false_eq_true, Bool.true_eq_false, implies_true, Bool.not_not, Classical.not_not, go_sem, Int.reduceToNat, List.take_nil, Nat.zero_mul, Nat.reduceEqDiff, Nat.reduceAdd, Nat.reduceLT, Nat.reduceLeDiff, Nat.reduceMul, ↓reduceIte, reduceCtorEq]
    have : aNum F[i] = n := by unfold aNum; rw [hn]; rfl
    rw [← this]
    exact Fin.plain hk
  · simp only [not_true_eq_false, not_false_eq_true, decide_true, decide_false, Bool.not_true, Bool.not_false, false_implies, true_implies, and_true, true_and, Bool.false_eq_true, Bool.true_eq_false, implies_true, Bool.not_not, Classical.not_not, go_sem, Int.reduceToNat, List.take_nil, Nat.zero_mul, Nat.reduceEqDiff, Nat.reduceAdd, Nat.reduceLT, Nat.reduceLeDiff, Nat.reduceMul, ↓reduceIte, reduceCtorEq]
    have : aNum F[i] = 0 := by unfold aNum; rw [hn]; rfl
    rw [this] at hk
    exact Fin.plain hk
theorem impl_ParseTask_ {σ : List AB} {l : List UInt8} (hl : l.length ≤ 1000000) {g : Nat} {ev : Value} (hg : σ[g]? = some (.gl (laysC172_ren.g 15) ev)) (hev : ev = .nilIface ∨ ∃ te pe, ev = .iface te pe) {K : AV → List AB → Prop} (hk : K (parseAV l) σ) : CallWp Tryz.prog n_impl_ParseTask [.s (bs l)] σ K := by
  refine callC_impl_ParseTask (by simp) fun hC hA => ?_
  simp only [c_impl_ParseTask, not_true_eq_false, not_false_eq_true, decide_true, decide_false, Bool.not_true, Bool.not_false, false_implies, true_implies, and_true, true_and, Bool.false_eq_true, Bool.true_eq_false, implies_true, Bool.not_not, Classical.not_not, go_sem, Int.reduceToNat, List.take_nil, Nat.zero_mul, Nat.reduceEqDiff, Nat.reduceAdd, Nat.reduceLT, Nat.reduceLeDiff, Nat.reduceMul, ↓reduceIte, reduceCtorEq]
  refine strings_Split_ l (by omega) ?_
  simp only [List.append_assoc, List.cons_append, List.nil_append, at_new, at_new0, set_new, set_new0, not_true_eq_false, not_false_eq_true, decide_true, decide_false, Bool.not_true, Bool.not_false, false_implies, true_implies, and_true, true_and, Bool.false_eq_true, Bool.true_eq_false, implies_true, Bool.not_not, Classical.not_not, go_sem, Int.reduceToNat, List.take_nil, Nat.zero_mul, Nat.reduceEqDiff, Nat.reduceAdd, Nat.reduceLT, Nat.reduceLeDiff, Nat.reduceMul, ↓reduceIte, reduceCtorEq]
  have hcl : ∀ τ, belowT σ.length (AV.tup [tAV τ, .b true]) = true ∧ belowT σ.length (AV.tup [tAV τ, .b false]) = true := fun τ => by simp [belowT, below1, below, tAV]
  have bad : ¬ (l.length ≤ 20 ∧ (fields l).length = 4 ∧ fmtT (implT (fields l)) = l) → ∀ τ : List AB, Fin σ.length (σ ++ τ) (.tup [.agg [.i .i64 0, .i .i64 0, .i .i64 0], .b false]) K := fun h τ => by
    have e : parseAV l = .tup [.agg [.i .i64 0, .i .i64 0, .i .i64 0], .b false] := parseAV_none fun g => h (impl_line.2 g)
    rw [e] at hk
    exact Fin.drop hC (Nat.le_refl _) (hcl ⟨0, 0, 0⟩).2 hk
  refine ⟨fun h20 => ⟨fun h4 => bad (fun h => h4 (by omega)) _, fun h4 => ?_⟩, fun h20 => bad (fun h => by omega) _⟩
  match hf : fields l, (show (fields l).length = 4 by omega) with
  | [a, b, c, d], _ =>
    have hlen := field_len hf
    rw [hf] at bad
    simp only [List.length_cons, List.length_nil, not_true_eq_false, not_false_eq_true, decide_true, decide_false, Bool.not_true, Bool.not_false, false_implies, true_implies, and_true, true_and, Bool.false_eq_true, Bool.true_eq_false, implies_true, Bool.not_not, Classical.not_not, go_sem, Int.reduceToNat, List.take_nil, Nat.zero_mul, Nat.reduceEqDiff, Nat.reduceAdd, Nat.reduceLT, Nat.reduceLeDiff, Nat.reduceMul, ↓reduceIte, reduceCtorEq]
    have hw : ∀ τ : List AB, (σ ++ τ)[g]? = some (.gl (laysC172_ren.g 15) ev) := fun τ => at_old hg τ
    have q : ∀ x y z : AB, ∀ τ, (σ ++ x :: y :: z :: τ)[σ.length + 1]? = some y ∧ (σ ++ x :: y :: z :: τ)[σ.length + 2]? = some z := fun x y z τ => by simp
    have P1 : ∀ (x : AB) (τ : List AB) {i : Nat} (hi : i < [a, b, c, d].length) {K' : AV → List AB → Prop}, (∀ w ∈ [a, b, c, d], w.length ≤ 18) → K' (.i .i64 (aNum [a, b, c, d][i])) (σ ++ x :: .rw ty_string (encStr.row [a, b, c, d]) 4 :: .rw ty_sl_string [.sl (σ.length + 1) 0 4 4] 1 :: τ) →
        CallWp Tryz.prog n_impl_ParseTask_1 [.i .i64 i, .p (σ.length + 2) 0] (σ ++ x :: .rw ty_string (encStr.row [a, b, c, d]) 4 :: .rw ty_sl_string [.sl (σ.length + 1) 0 4 4] 1 :: τ) K' := fun x τ i hi K' hw18 hK => by
      refine impl_PT1_ (F := [a, b, c, d]) (n := σ.length + 1) (cap := 4) hi rfl (hw18 _ (List.getElem_mem _)) ?_ ?_ (hw _) hev hK
      · rw [cellsOf, (q _ _ _ _).2]; rfl
      · rw [cellsOf, (q _ _ _ _).1]
    have h18 : ∀ w ∈ [a, b, c, d], w.length ≤ 18 := by
      intro w hw
      simp only [List.mem_cons, List.not_mem_nil, or_false] at hw
      rcases hw with rfl | rfl | rfl | rfl <;> omega
    refine P1 _ [] (i := 1) (by simp) h18 ?_
    simp only [not_true_eq_false, not_false_eq_true, decide_true, decide_false, Bool.not_true, Bool.not_false, false_implies, true_implies, and_true, true_and, Bool.false_eq_true, Bool.true_eq_false, implies_true, Bool.not_not, Classical.not_not, go_sem, Int.reduceToNat, List.take_nil, Nat.zero_mul, Nat.reduceEqDiff, Nat.reduceAdd, Nat.reduceLT, Nat.reduceLeDiff, Nat.reduceMul, ↓reduceIte, reduceCtorEq]
    refine P1 _ [] (i := 2) (by simp) h18 ?_
    simp only [not_true_eq_false, not_false_eq_true, decide_true, decide_false, Bool.not_true, Bool.not_false, false_implies, true_implies, and_true, true_and, Bool.false_eq_true, Bool.true_eq_false, implies_true, Bool.not_not, Classical.not_not, go_sem, Int.reduceToNat, List.take_nil, Nat.zero_mul, Nat.reduceEqDiff, Nat.reduceAdd, Nat.reduceLT, Nat.reduceLeDiff, Nat.reduceMul, ↓reduceIte, reduceCtorEq]
    refine P1 _ [] (i := 3) (by simp) h18 ?_
    simp only [List.append_assoc, List.cons_append, List.nil_append, at_new, at_new0, set_new, set_new0, List.getElem_cons_succ, List.getElem_cons_zero, not_true_eq_false, not_false_eq_true, decide_true, decide_false, Bool.not_true, Bool.not_false, false_implies, true_implies, and_true, true_and, Bool.false_eq_true, Bool.true_eq_false, implies_true, Bool.not_not, Classical.not_not, go_sem, Int.reduceToNat, List.take_nil, Nat.zero_mul, Nat.reduceEqDiff, Nat.reduceAdd, Nat.reduceLT, Nat.reduceLeDiff, Nat.reduceMul, ↓reduceIte, reduceCtorEq]
    refine impl_FormatTask_ ⟨aNum b, aNum c, aNum d⟩ ?_
    have eT : implT [a, b, c, d] = ⟨aNum b, aNum c, aNum d⟩ := rfl
    simp only [List.append_assoc, List.cons_append, List.nil_append, at_new, at_new0, set_new, set_new0, bs_inj, not_true_eq_false, not_false_eq_true, decide_true, decide_false, Bool.not_true, Bool.not_false, false_implies, true_implies, and_true, true_and, Bool.false_eq_true, Bool.true_eq_false, implies_true, Bool.not_not, Classical.not_not, go_sem, Int.reduceToNat, List.take_nil, Nat.zero_mul, Nat.reduceEqDiff, Nat.reduceAdd, Nat.reduceLT, Nat.reduceLeDiff, Nat.reduceMul, ↓reduceIte, reduceCtorEq]
    refine ⟨fun hne => bad (fun h => hne (by rw [← eT]; exact h.2.2)) _, fun he => ?_⟩
    obtain ⟨t, ht⟩ := impl_line.1 (⟨by omega, by rw [hf]; rfl, by rw [hf, eT]; exact he⟩ : l.length ≤ 20 ∧ (fields l).length = 4 ∧ fmtT (implT (fields l)) = l)
    have e := impl_task ht
    rw [hf, eT] at e
    rw [parseAV_some ht, ← e] at hk
    exact Fin.drop hC (Nat.le_refl _) (hcl ⟨aNum b, aNum c, aNum d⟩).1 hk
end Go.Proofs.YtfngcejaphhmmaaGreatDoor
/- Contracts: drawn lines of text. -/
namespace Go.Proofs.YtfngcejaphhmmaaGreatDoor
open Go.Abs Go.Ds
set_option linter.unusedSimpArgs false
set_option linter.unusedVariables false
set_option maxRecDepth 20000
set_option maxHeartbeats 2000000
theorem spec_l20Open01 (C : List Nat) (c : Nat) : CallWp Tryz.prog n_spec_l20Open [.sl 0 0 C.length c] [.ro (encByte.row C)] (fun x σ' => x = .p 1 0 ∧ σ' = [.ro (encByte.row C), .rw ty_spec_l20Rd [.sl 0 0 (C.take 2000).length c, .i .i64 0] 2]) := by
  refine call_spec_l20Open (by simp) ?_
  simp only [c_spec_l20Open, go_sem, Int.reduceToNat, List.take_nil, Nat.zero_mul, Nat.reduceEqDiff, Nat.reduceAdd, Nat.reduceLT, Nat.reduceLeDiff, Nat.reduceMul, ↓reduceIte, reduceCtorEq]
  refine seq_join (fun _ : Unit => ⟨[(0, .sl 0 0 (C.take 2000).length c)], [.ro (encByte.row C)]⟩) (fun _ => True) ?_ fun _ _ => ?_
  · simp only [go_sem, Int.reduceToNat, List.take_nil, Nat.zero_mul, Nat.reduceEqDiff, Nat.reduceAdd, Nat.reduceLT, Nat.reduceLeDiff, Nat.reduceMul, ↓reduceIte, reduceCtorEq]
    refine ⟨fun h => ⟨by omega, by omega, kJ_intro () trivial ?_⟩, fun h => kJ_intro () trivial ?_⟩
    · have : (C.take 2000).length = 2000 := by rw [List.length_take]; omega
      rw [this]
      exact Wk.pick [0]
    · rw [List.take_of_length_le (by omega)]; exact Wk.pick [0]
  · simp only [go_sem, Int.reduceToNat, List.take_nil, Nat.zero_mul, Nat.reduceEqDiff, Nat.reduceAdd, Nat.reduceLT, Nat.reduceLeDiff, Nat.reduceMul, ↓reduceIte, reduceCtorEq]
    exact Fin.plain ⟨rfl, rfl⟩
end Go.Proofs.YtfngcejaphhmmaaGreatDoor
