import Derived.Test.YtfngcejaphhmmaaGreatDoorSR
import Derived.Test.YtfngcejaphhmmaaGreatDoorD4
namespace Go.Abs
open Go.RowKit
theorem law_callsGs {P : Program} {f : FuncId} {args : List AV} {rows : List (List AV)} {gs : List (Nat × Value)} {vs : List Value} {W : World} (h : CallWp P f args (rows.map .ro ++ gs.map fun g => .gl g.1 g.2) fun x _ => x = .b true) (ρ : Pl)
    (hb : ∀ n row, rows[n]? = some row → Holds ρ (rows.length + gs.length) W (ρ n) (.ro row)) (hρ : ∀ i g, gs[i]? = some g → ρ (rows.length + i) = (g.1, 0)) (hg : ∀ g ∈ gs, ∃ T fr, W.heap[g.1]? = some (.cells g.2.cells T fr)) (hv : M1s ρ (rows.length + gs.length) args vs) : Calls P f vs.toArray W fun e W' => e = .returned (.bool true) ∧ Below W.heap.size W W' := by
  have hlen : (rows.map AB.ro ++ gs.map fun g => AB.gl g.1 g.2).length = rows.length + gs.length := by simp
  have split : ∀ n B, (rows.map AB.ro ++ gs.map fun g => AB.gl g.1 g.2)[n]? = some B → (∃ row, rows[n]? = some row ∧ B = .ro row) ∨ (∃ i g, gs[i]? = some g ∧ n = rows.length + i ∧ B = .gl g.1 g.2) := by
    intro n B hn
    rcases Nat.lt_or_ge n rows.length with hlt | hge
    · rw [List.getElem?_append_left (by simpa using hlt), List.getElem?_map, List.getElem?_eq_getElem hlt] at hn
      exact .inl ⟨rows[n], List.getElem?_eq_getElem hlt, (Option.some.inj hn).symm⟩
    · rw [List.getElem?_append_right (by simpa using hge), List.length_map, List.getElem?_map, Option.map_eq_some_iff] at hn
      obtain ⟨g, h1, h2⟩ := hn
      exact .inr ⟨n - rows.length, g, h1, by omega, h2.symm⟩
  have hs : Sim ⟨fun b => W.heap[b]?, W.os, W.tape, W.output, W.heap.size⟩ ρ (rows.map .ro ++ gs.map fun g => .gl g.1 g.2) W := by
    refine ⟨rfl, rfl, rfl, Nat.le_refl _, fun _ _ h => h, ?_, ?_⟩
    · intro n B hn
      rw [hlen]
      rcases split n B hn with ⟨row, hr, rfl⟩ | ⟨i, g, h1, rfl, rfl⟩
      · exact hb n row hr
      · refine ⟨hρ i g h1, ?_⟩
        rw [hρ i g h1]; exact hg g (List.mem_of_getElem? h1)
    · intro n B0 hn hW
      rcases split n B0 hn with ⟨row, _, rfl⟩ | ⟨i, g, _, _, rfl⟩ <;> exact hW.elim
  refine (h.2 _ ρ W vs hs (by rw [hlen]; exact hv)).mono ?_
  rintro e W' ⟨v, x, σ', ρ', rfl, hs', hl, he, hm, rfl⟩
  refine ⟨by rw [hm.bool], hs'.os, hs'.tape, hs'.out, hs'.sz, fun k hk => ?_⟩
  obtain ⟨o, ho⟩ : ∃ o, W.heap[k]? = some o := ⟨_, Array.getElem?_eq_getElem hk⟩
  rw [ho]
  exact hs'.fr k o ho
end Go.Abs
namespace Go.Proofs.YtfngcejaphhmmaaGreatDoor
open Go.Abs Go.Ds
set_option linter.unusedSimpArgs false
set_option linter.unusedVariables false
set_option maxRecDepth 20000
set_option maxHeartbeats 4000000
theorem RepV.bad {L A : List (List UInt8)} (h : RepV L A) {k : Nat} (hk : k < L.length) (hJ : ∀ j (h : j < L.length), j < k → lnOk L[j]) (hb : ¬ lnOk L[k]) : A = [wLine ++ decI ((k : Int) + 1)] :=
  h.same (.inl ⟨k, hk, hJ, hb, rfl⟩)
theorem RepV.many {L A : List (List UInt8)} (h : RepV L A) (hJ : ∀ l ∈ L, lnOk l) (h5 : 5 < L.length) : A = [wMany] := h.same (.inr (.inl ⟨hJ, h5, rfl⟩))
theorem RepV.set {L A : List (List UInt8)} (h : RepV L A) (hJ : ∀ l ∈ L, lnOk l) (h5 : L.length ≤ 5) : SetR (L.map tOf) A := by
  rcases h with ⟨k, hk, _, h2, _⟩ | ⟨_, h, _⟩ | ⟨_, _, h⟩
  · exact absurd (hJ _ (List.getElem_mem hk)) h2
  · omega
  · exact h
theorem dec_pos (n : Int) : 1 ≤ (decI n).length := by
  have := dec_ne n.toNat
  cases h : decI n with
  | nil => exact absurd h this
  | cons a l => simp
theorem fov_feas {S : List Task} (hS : setOk S) {r : Int} (h : FovP S r) : r < 0 ↔ feas S := by
  have hH := hyperN_pos hS
  rcases h with ⟨h1, h2⟩ | ⟨h1, h2, h3, _⟩
  · exact ⟨fun _ => ⟨hS, h2⟩, fun _ => by omega⟩
  · exact ⟨fun _ => by omega, fun h => by have := h.2 r h1 h2; omega⟩
theorem core_str {m : Int} (h : 0 ≤ m ∧ m ≤ 5) : rd [.s (bs [48]), .s (bs [49]), .s (bs [50]), .s (bs [51]), .s (bs [52]), .s (bs [53])] m.toNat = .s (bs (decI m)) := by
  have e : decI m = [UInt8.ofNat (48 + m.toNat)] := Lib.decDigits_one (by omega)
  rw [e]
  obtain ⟨n, hn⟩ : ∃ n : Nat, m = n := ⟨m.toNat, by omega⟩
  subst hn
  have h6 : n < 6 := by omega
  rw [Int.toNat_natCast]
  match n, h6 with
  | 0, _ => rfl
  | 1, _ => rfl
  | 2, _ => rfl
  | 3, _ => rfl
  | 4, _ => rfl
  | 5, _ => rfl
theorem laws_FnReport0 (C : List Nat) (hC : ∀ x ∈ C, x < 256) (c : Nat) {ev : Value} (hev : ev = .nilIface ∨ ∃ te pe, ev = .iface te pe) :
    CallWp Tryz.prog n_laws_FnReport [.sl 0 0 C.length c] [.ro (encByte.row C), .gl (laysC172_ren.g 15) ev, .gl (laysM171_ren.g 17) tabV] (fun x _ => x = .b true) := by
  refine call_laws_FnReport (by simp) ?_
  simp only [c_laws_FnReport, not_true_eq_false, not_false_eq_true, decide_true, decide_false, Bool.not_true, Bool.not_false, false_implies, true_implies, and_true, true_and, Bool.false_eq_true, Bool.true_eq_false, implies_true, Bool.not_not, Classical.not_not, go_sem, Int.reduceToNat, List.take_nil, Nat.zero_mul, Nat.reduceEqDiff, Nat.reduceAdd, Nat.reduceLT, Nat.reduceLeDiff, Nat.reduceMul, ↓reduceIte, reduceCtorEq]
  refine ⟨fun h => Fin.plain rfl, fun h => ?_⟩
  refine spec_DrawReport_ hC (Rd.own rfl) fun L ca cc hL hl => ?_
  simp only [not_true_eq_false, not_false_eq_true, decide_true, decide_false, Bool.not_true, Bool.not_false, false_implies, true_implies, and_true, true_and, Bool.false_eq_true, Bool.true_eq_false, implies_true, Bool.not_not, Classical.not_not, go_sem, Int.reduceToNat, List.take_nil, Nat.zero_mul, Nat.reduceEqDiff, Nat.reduceAdd, Nat.reduceLT, Nat.reduceLeDiff, Nat.reduceMul, ↓reduceIte, reduceCtorEq]
  refine (impl_Report0 C ev L cc ca hev hL hl).mono ?_
  rintro x σ' _ ⟨A, c4, cc4, rfl, rfl, hA⟩
  simp only [not_true_eq_false, not_false_eq_true, decide_true, decide_false, Bool.not_true, Bool.not_false, false_implies, true_implies, and_true, true_and, Bool.false_eq_true, Bool.true_eq_false, implies_true, Bool.not_not, Classical.not_not, go_sem, Int.reduceToNat, List.take_nil, Nat.zero_mul, Nat.reduceEqDiff, Nat.reduceAdd, Nat.reduceLT, Nat.reduceLeDiff, Nat.reduceMul, ↓reduceIte, reduceCtorEq]
  refine spec_Report_ hL hl (Rd.own rfl) fun B c5 cc5 hB => ?_
  obtain rfl := hB.same hA
  simp only [not_true_eq_false, not_false_eq_true, decide_true, decide_false, Bool.not_true, Bool.not_false, false_implies, true_implies, and_true, true_and, Bool.false_eq_true, Bool.true_eq_false, implies_true, Bool.not_not, Classical.not_not, go_sem, Int.reduceToNat, List.take_nil, Nat.zero_mul, Nat.reduceEqDiff, Nat.reduceAdd, Nat.reduceLT, Nat.reduceLeDiff, Nat.reduceMul, ↓reduceIte, reduceCtorEq]
  have hBl : B.length ≤ 9 := by
    rcases hA with ⟨_, _, _, _, rfl⟩ | ⟨_, _, rfl⟩ | ⟨_, _, r, m, O, _, _, _, rfl⟩ <;> simp [repW]
  refine laws_sameStrings_ (L := B) (M := B) (by omega) (Rd.own rfl) (Rd.own rfl) ?_
  simp only [not_true_eq_false, not_false_eq_true, decide_true, decide_false, Bool.not_true, Bool.not_false, false_implies, true_implies, and_true, true_and, Bool.false_eq_true, Bool.true_eq_false, implies_true, Bool.not_not, Classical.not_not, go_sem, Int.reduceToNat, List.take_nil, Nat.zero_mul, Nat.reduceEqDiff, Nat.reduceAdd, Nat.reduceLT, Nat.reduceLeDiff, Nat.reduceMul, ↓reduceIte, reduceCtorEq]
  refine loop_intro (fun i : Nat × Nat => ⟨[(3, .sl 3 0 L.length ca), (4, .sl 4 0 B.length c4), (5, .sl 5 0 (setT L i.1).length i.2), (6, .i .i64 i.1)], [.ro (encByte.row C), .gl (laysC172_ren.g 15) ev, .gl (laysM171_ren.g 17) tabV, .rw ty_string (encStr.row L) cc, .rw ty_string (encStr.row B) cc4, .rw ty_impl_Task (encTask.row (setT L i.1)) (i.2 * 3)]⟩)
    (fun i => i.1 ≤ L.length ∧ ∀ j (h : j < L.length), j < i.1 → lnOk L[j]) (fun i => L.length - i.1) (0, 0) ⟨Nat.zero_le _, fun j h hj => absurd hj (Nat.not_lt_zero _)⟩ (by simp only [setT_zero]; exact Wk.pick [0, 1, 2, 3, 4, 6]) ?_
  rintro ⟨k, cap⟩ ⟨hk, hJ⟩
  simp only at hk hJ
  have hlen : (setT L k).length = k := setT_len hk
  simp only [l0_laws_FnReport, lenS, not_true_eq_false, not_false_eq_true, decide_true, decide_false, Bool.not_true, Bool.not_false, false_implies, true_implies, and_true, true_and, Bool.false_eq_true, Bool.true_eq_false, implies_true, Bool.not_not, Classical.not_not, go_sem, Int.reduceToNat, List.take_nil, Nat.zero_mul, Nat.reduceEqDiff, Nat.reduceAdd, Nat.reduceLT, Nat.reduceLeDiff, Nat.reduceMul, ↓reduceIte, reduceCtorEq]
  refine ⟨fun hlt => ?_, fun hge => ?_⟩
  · have hlk := hl _ (List.getElem_mem hlt)
    simp only [rdS hlt, lenS, not_true_eq_false, not_false_eq_true, decide_true, decide_false, Bool.not_true, Bool.not_false, false_implies, true_implies, and_true, true_and, Bool.false_eq_true, Bool.true_eq_false, implies_true, Bool.not_not, Classical.not_not, go_sem, Int.reduceToNat, List.take_nil, Nat.zero_mul, Nat.reduceEqDiff, Nat.reduceAdd, Nat.reduceLT, Nat.reduceLeDiff, Nat.reduceMul, ↓reduceIte, reduceCtorEq]
    refine ⟨hlt, hlt, impl_ParseTask_ (g := 1) (by omega) rfl hev ?_⟩
    by_cases hp : lnOk L[k]
    · obtain ⟨t, ht⟩ := hp
      have et : setT L (k + 1) = setT L k ++ [t] := by unfold setT; rw [setT_succ hlt, tOf_eq ht]
      rw [parseAV_some ht]
      simp only [tAV, not_true_eq_false, not_false_eq_true, decide_true, decide_false, Bool.not_true, Bool.not_false, false_implies, true_implies, and_true, true_and, Bool.false_eq_true, Bool.true_eq_false, implies_true, Bool.not_not, Classical.not_not, go_sem, Int.reduceToNat, List.take_nil, Nat.zero_mul, Nat.reduceEqDiff, Nat.reduceAdd, Nat.reduceLT, Nat.reduceLeDiff, Nat.reduceMul, ↓reduceIte, reduceCtorEq, lenT, rdT0, rdT1, rdT2, winT, takeT, appT, splT, splI, winI, lenI, rdI, takeI, appI]
      refine ⟨by omega, fun cap' hcap => ⟨by omega, (k + 1, cap'), ⟨⟨by simp only; omega, ?_⟩, by simp only; omega⟩, ?_⟩⟩
      · intro j h hj
        rcases Nat.lt_succ_iff_lt_or_eq.1 hj with h1 | h1
        · exact hJ j h h1
        · subst h1; exact ⟨t, ht⟩
      · simp only [et, List.length_append, List.length_cons, List.length_nil]
        exact Wk.pick [0, 1, 2, 3, 4, 8]
    · rw [parseAV_none hp]
      have hd := dec_pos ((k : Int) + 1)
      obtain rfl := hA.bad hlt hJ hp
      have hrow : ∀ a : List UInt8, encStr.row [a] = [.s (bs a)] := fun _ => rfl
      have hwl : wLine.length = 5 := rfl
      have htk : List.drop 0 (List.take 5 (wLine ++ decI ((k : Int) + 1))) = [108, 105, 110, 101, 32] := by simp [wLine]
      simp only [hrow, tAV, hwl, htk, List.length_cons, List.length_nil, not_true_eq_false, not_false_eq_true, decide_true, decide_false, Bool.not_true, Bool.not_false, false_implies, true_implies, and_true, true_and, Bool.false_eq_true, Bool.true_eq_false, implies_true, Bool.not_not, Classical.not_not, go_sem, Int.reduceToNat, List.take_nil, Nat.zero_mul, Nat.reduceEqDiff, Nat.reduceAdd, Nat.reduceLT, Nat.reduceLeDiff, Nat.reduceMul, ↓reduceIte, reduceCtorEq]
      repeat' first
        | omega
        | (refine laws_alive_ ?_; simp only [not_true_eq_false, not_false_eq_true, decide_true, decide_false, Bool.not_true, Bool.not_false, false_implies, true_implies, and_true, true_and, Bool.false_eq_true, Bool.true_eq_false, implies_true, Bool.not_not, Classical.not_not, go_sem, Int.reduceToNat, List.take_nil, Nat.zero_mul, Nat.reduceEqDiff, Nat.reduceAdd, Nat.reduceLT, Nat.reduceLeDiff, Nat.reduceMul, ↓reduceIte, reduceCtorEq]; exact Fin.plain rfl)
        | refine ⟨?_, ?_⟩
        | intro _
  · have ek : k = L.length := by omega
    subst ek
    have hall : ∀ l ∈ L, lnOk l := fun l h => by
      obtain ⟨i, hi, rfl⟩ := List.getElem_of_mem h
      exact hJ i hi hi
    have eS : setT L L.length = L.map tOf := by unfold setT; rw [List.take_length]
    generalize hSS : setT L L.length = S at *
    refine ⟨fun h5 => ?_, fun h5 => ?_⟩
    · obtain rfl := hA.many hall (by omega)
      refine laws_sameStrings_ (L := [wMany]) (M := [wMany]) (by simp) (Rd.own rfl) (Rd.own rfl) ?_
      simp only [not_true_eq_false, not_false_eq_true, decide_true, decide_false, Bool.not_true, Bool.not_false, false_implies, true_implies, and_true, true_and, Bool.false_eq_true, Bool.true_eq_false, implies_true, Bool.not_not, Classical.not_not, go_sem, Int.reduceToNat, List.take_nil, Nat.zero_mul, Nat.reduceEqDiff, Nat.reduceAdd, Nat.reduceLT, Nat.reduceLeDiff, Nat.reduceMul, ↓reduceIte, reduceCtorEq]
      exact Fin.plain rfl
    · have h5' : L.length ≤ 5 := by omega
      have hS : setOk S := by rw [eS]; exact set_ok h5' hall
      obtain ⟨r, m, O, hr, hm, hO, eA⟩ := hA.set hall h5'
      obtain ⟨a0, a2, rfl⟩ : ∃ a0 a2, B = [a0, edfW r, a2, wCores ++ decI m] := ⟨_, _, eA⟩
      have hrow : ∀ a b c d : List UInt8, encStr.row [a, b, c, d] = [.s (bs a), .s (bs b), .s (bs c), .s (bs d)] := fun _ _ _ _ => rfl
      clear eA
      rw [← eS] at hr hm hO
      have hwf : ([101, 100, 102, 32, 102, 101, 97, 115, 105, 98, 108, 101] : List UInt8) = wFeas := rfl
      have hm5 : 0 ≤ m ∧ m ≤ 5 := by rcases hm with ⟨_, h1⟩ | ⟨_, h1, _⟩ <;> omega
      have hwc : wCores ++ decI m = 99 :: 111 :: 114 :: 101 :: 115 :: 32 :: decI m := rfl
      have hdm := decI_le (n := m) (by omega) (by omega)
      have eE := core_str hm5
      have hedf := edfW_iff (r := r)
      rw [fov_feas hS hr] at hedf
      have E1 : ∀ σ : List AB, Rd encTask σ (.sl 5 0 S.length cap) S → ∀ K : AV → List AB → Prop, K (.b (decide (feas S))) σ → CallWp Tryz.prog n_impl_EdfFeasible [.sl 5 0 S.length cap] σ K := fun σ h K hk => impl_EdfFeasible_ (S := S) (by omega) h hk
      have E2 : ∀ σ : List AB, Rd encTask σ (.sl 5 0 S.length cap) S → ∀ K : AV → List AB → Prop, K (.i .i64 m) σ → CallWp Tryz.prog n_impl_MinCores [.sl 5 0 S.length cap] σ K := fun σ h K hk => impl_MinCores_ (S := S) (by omega) h fun m' hm' => by rw [hm'.same hm]; exact hk
      simp only [hrow, hwf, hwc, bs_inj, hedf, List.length_cons, List.length_nil, not_true_eq_false, not_false_eq_true, decide_true, decide_false, Bool.not_true, Bool.not_false, false_implies, true_implies, and_true, true_and, Bool.false_eq_true, Bool.true_eq_false, implies_true, Bool.not_not, Classical.not_not, go_sem, Int.reduceToNat, List.take_nil, Nat.zero_mul, Nat.reduceEqDiff, Nat.reduceAdd, Nat.reduceLT, Nat.reduceLeDiff, Nat.reduceMul, ↓reduceIte, reduceCtorEq]
      by_cases hf : feas S
      · simp only [hf, not_true_eq_false, not_false_eq_true, decide_true, decide_false, Bool.not_true, Bool.not_false, false_implies, true_implies, and_true, true_and, Bool.false_eq_true, Bool.true_eq_false, implies_true, Bool.not_not, Classical.not_not, go_sem, Int.reduceToNat, List.take_nil, Nat.zero_mul, Nat.reduceEqDiff, Nat.reduceAdd, Nat.reduceLT, Nat.reduceLeDiff, Nat.reduceMul, ↓reduceIte, reduceCtorEq] at E1 ⊢
        repeat' first
          | omega
          | exact Fin.plain rfl
          | (refine E1 _ (Rd.own rfl) _ ?_; simp only [hf, hedf, eE, bs_inj, not_true_eq_false, not_false_eq_true, decide_true, decide_false, Bool.not_true, Bool.not_false, false_implies, true_implies, and_true, true_and, Bool.false_eq_true, Bool.true_eq_false, implies_true, Bool.not_not, Classical.not_not, go_sem, Int.reduceToNat, List.take_nil, Nat.zero_mul, Nat.reduceEqDiff, Nat.reduceAdd, Nat.reduceLT, Nat.reduceLeDiff, Nat.reduceMul, ↓reduceIte, reduceCtorEq])
          | (refine E2 _ (Rd.own rfl) _ ?_; simp only [hf, hedf, eE, bs_inj, List.length_cons, not_true_eq_false, not_false_eq_true, decide_true, decide_false, Bool.not_true, Bool.not_false, false_implies, true_implies, and_true, true_and, Bool.false_eq_true, Bool.true_eq_false, implies_true, Bool.not_not, Classical.not_not, go_sem, Int.reduceToNat, List.take_nil, Nat.zero_mul, Nat.reduceEqDiff, Nat.reduceAdd, Nat.reduceLT, Nat.reduceLeDiff, Nat.reduceMul, ↓reduceIte, reduceCtorEq])
          | refine ⟨?_, ?_⟩
          | intro _
      · simp only [hf, not_true_eq_false, not_false_eq_true, decide_true, decide_false, Bool.not_true, Bool.not_false, false_implies, true_implies, and_true, true_and, Bool.false_eq_true, Bool.true_eq_false, implies_true, Bool.not_not, Classical.not_not, go_sem, Int.reduceToNat, List.take_nil, Nat.zero_mul, Nat.reduceEqDiff, Nat.reduceAdd, Nat.reduceLT, Nat.reduceLeDiff, Nat.reduceMul, ↓reduceIte, reduceCtorEq] at E1 ⊢
        repeat' first
          | omega
          | exact Fin.plain rfl
          | (refine E1 _ (Rd.own rfl) _ ?_; simp only [hf, hedf, eE, bs_inj, not_true_eq_false, not_false_eq_true, decide_true, decide_false, Bool.not_true, Bool.not_false, false_implies, true_implies, and_true, true_and, Bool.false_eq_true, Bool.true_eq_false, implies_true, Bool.not_not, Classical.not_not, go_sem, Int.reduceToNat, List.take_nil, Nat.zero_mul, Nat.reduceEqDiff, Nat.reduceAdd, Nat.reduceLT, Nat.reduceLeDiff, Nat.reduceMul, ↓reduceIte, reduceCtorEq])
          | (refine E2 _ (Rd.own rfl) _ ?_; simp only [hf, hedf, eE, bs_inj, List.length_cons, not_true_eq_false, not_false_eq_true, decide_true, decide_false, Bool.not_true, Bool.not_false, false_implies, true_implies, and_true, true_and, Bool.false_eq_true, Bool.true_eq_false, implies_true, Bool.not_not, Classical.not_not, go_sem, Int.reduceToNat, List.take_nil, Nat.zero_mul, Nat.reduceEqDiff, Nat.reduceAdd, Nat.reduceLT, Nat.reduceLeDiff, Nat.reduceMul, ↓reduceIte, reduceCtorEq])
          | refine ⟨?_, ?_⟩
          | intro _
theorem c_FnReport (C : List Nat) (c : Nat) (hC : ∀ x ∈ C, x < 256) {ev : Value} (hev : ev = .nilIface ∨ ∃ te pe, ev = .iface te pe) :
    CallWp Tryz.prog n_laws_FnReport [.sl 0 0 C.length c] ([encByte.row C].map .ro ++ [((laysC172_ren.g 15 : Nat), ev), ((laysM171_ren.g 17 : Nat), tabV)].map fun g => .gl g.1 g.2) (fun x _ => x = .b true) := laws_FnReport0 C hC c hev
end Go.Proofs.YtfngcejaphhmmaaGreatDoor
