import Derived.Test.YtnlciginmeebhaaS58
import Derived.Test.YtnlciginmeebhaaS39
import Derived.Test.YtnlciginmeebhaaM43
namespace Go.Proofs.Ytnlciginmeebhaa
open Go.Abs Go.Ds
set_option linter.unusedSimpArgs false
set_option linter.unusedVariables false
set_option maxRecDepth 20000
set_option maxHeartbeats 2000000
/-- A server in memory. -/
structure SR where
  x : Srv
  req : AV
  A : List Arr
  w : Sv
  row : List Int
  r : Nat
abbrev rowB (s : SR) : AB := .rw ty_int (encInt.row s.row) s.r
abbrev cpB (s : SR) : AB := .rw ty_impl_Server [.i .i64 s.x.B, .i .i64 s.x.P] 2
abbrev svB (s : SR) : AB := blkSv s.x s.req s.w
def tailF (f : Nat → SR) : Nat → List AB
  | 0 => []
  | n + 1 => tailF f n ++ [cpB (f n), svB (f n), rowB (f n)]
def workC (N n : Nat) : List AV := (List.range n).map fun k => AV.p (N + (8 + 3 * k)) 0
def servC (N : Nat) (f : Nat → SR) (n : Nat) : List AV := (List.range n).map fun k => AV.sl (N + (9 + 3 * k)) 0 (f k).A.length (f k).r
def TT (N j Ln c cc : Nat) (ch : List Int) (f : Nat → SR) (n : Nat) : List AB :=
  .rw ty_sl_impl_Job [.sl j 0 Ln c] 1 :: .rw ty_impl_ServerRun [.sn, .sn, .sn, .sn] 4 :: .rw ty_int (encInt.row ch) cc :: .rw ty_sl_int (servC N f n) n :: .rw ty_impl_ServerRun [.sn, .sn, .sl (N + 2) 0 120 cc, .sl (N + 3) 0 n n] 4 ::
    .rw ty_ptr_impl_server (workC N n) n :: .rw ty_sl_ptr_impl_server [.sl (N + 5) 0 n n] 1 :: tailF f n
theorem tail_len (f : Nat → SR) : ∀ n, (tailF f n).length = 3 * n
  | 0 => rfl
  | n + 1 => by rw [tailF, List.length_append, tail_len f n]; simp; omega
theorem tail_at (f : Nat → SR) {i : Nat} : ∀ {n}, i < n → (tailF f n)[3 * i]? = some (cpB (f i)) ∧ (tailF f n)[1 + 3 * i]? = some (svB (f i)) ∧ (tailF f n)[2 + 3 * i]? = some (rowB (f i))
  | 0, h => absurd h (Nat.not_lt_zero _)
  | n + 1, h => by
    have hl := tail_len f n
    rw [tailF]
    by_cases e : i = n
    · subst e
      refine ⟨?_, ?_, ?_⟩
      · rw [List.getElem?_append_right (by omega), hl, Nat.sub_self]; rfl
      · rw [List.getElem?_append_right (by omega), hl, show 1 + 3 * i - 3 * i = 1 by omega]; rfl
      · rw [List.getElem?_append_right (by omega), hl, show 2 + 3 * i - 3 * i = 2 by omega]; rfl
    · have ih := tail_at f (show i < n by omega)
      refine ⟨?_, ?_, ?_⟩
      · rw [List.getElem?_append_left (by omega)]; exact ih.1
      · rw [List.getElem?_append_left (by omega)]; exact ih.2.1
      · rw [List.getElem?_append_left (by omega)]; exact ih.2.2
theorem tail_congr {f g : Nat → SR} : ∀ {n}, (∀ k, k < n → f k = g k) → tailF f n = tailF g n
  | 0, _ => rfl
  | n + 1, h => by rw [tailF, tailF, tail_congr fun k hk => h k (by omega), h n (by omega)]
def updW (f : Nat → SR) (i : Nat) (w : Sv) : Nat → SR := fun k => if k = i then { f k with w := w } else f k
def updR (f : Nat → SR) (i : Nat) (row : List Int) : Nat → SR := fun k => if k = i then { f k with row := row } else f k
theorem tail_setW (f : Nat → SR) {i : Nat} (w : Sv) : ∀ {n}, i < n → (tailF f n).set (1 + 3 * i) (blkSv (f i).x (f i).req w) = tailF (updW f i w) n
  | 0, h => absurd h (Nat.not_lt_zero _)
  | n + 1, h => by
    have hl := tail_len f n
    rw [tailF, tailF]
    by_cases e : i = n
    · subst e
      rw [List.set_append_right _ _ (by omega), hl, show 1 + 3 * i - 3 * i = 1 by omega]
      congr 1
      · exact tail_congr fun k hk => by unfold updW; rw [if_neg (by omega)]
      · simp [updW]
    · rw [List.set_append_left _ _ (by omega), tail_setW f w (show i < n by omega)]
      congr 1
      unfold updW
      rw [if_neg (fun h => e h.symm)]
theorem tail_setR (f : Nat → SR) {i : Nat} (row : List Int) : ∀ {n}, i < n → (tailF f n).set (2 + 3 * i) (.rw ty_int (encInt.row row) (f i).r) = tailF (updR f i row) n
  | 0, h => absurd h (Nat.not_lt_zero _)
  | n + 1, h => by
    have hl := tail_len f n
    rw [tailF, tailF]
    by_cases e : i = n
    · subst e
      rw [List.set_append_right _ _ (by omega), hl, show 2 + 3 * i - 3 * i = 2 by omega]
      congr 1
      · exact tail_congr fun k hk => by unfold updR; rw [if_neg (by omega)]
      · simp [updR]
    · rw [List.set_append_left _ _ (by omega), tail_setR f row (show i < n by omega)]
      congr 1
      unfold updR
      rw [if_neg (fun h => e h.symm)]
section
variable {N j Ln c cc : Nat} {ch : List Int} {f : Nat → SR} {n i : Nat} {τ : List AB}
theorem TT_len : (TT N j Ln c cc ch f n).length = 7 + 3 * n := by simp [TT, tail_len]; omega
theorem TT_sv (h : i < n) : (TT N j Ln c cc ch f n ++ τ)[8 + 3 * i]? = some (svB (f i)) := by
  rw [List.getElem?_append_left (by rw [TT_len]; omega), show 8 + 3 * i = 1 + 3 * i + 7 by omega]
  exact (tail_at f h).2.1
theorem TT_row (h : i < n) : (TT N j Ln c cc ch f n ++ τ)[9 + 3 * i]? = some (rowB (f i)) := by
  rw [List.getElem?_append_left (by rw [TT_len]; omega), show 9 + 3 * i = 2 + 3 * i + 7 by omega]
  exact (tail_at f h).2.2
theorem servC_same {f g : Nat → SR} (h : ∀ k, k < n → (f k).A = (g k).A ∧ (f k).r = (g k).r) : servC N f n = servC N g n := by
  unfold servC
  apply List.map_congr_left
  intro k hk
  have := h k (List.mem_range.1 hk)
  rw [this.1, this.2]
theorem TT_congr {f g : Nat → SR} (h : ∀ k, k < n → f k = g k) : TT N j Ln c cc ch f n = TT N j Ln c cc ch g n := by
  unfold TT
  rw [tail_congr h, servC_same fun k hk => by rw [h k hk]; exact ⟨rfl, rfl⟩]
theorem TT_setW (h : i < n) (w : Sv) : (TT N j Ln c cc ch f n ++ τ).set (8 + 3 * i) (blkSv (f i).x (f i).req w) = TT N j Ln c cc ch (updW f i w) n ++ τ := by
  rw [List.set_append_left _ _ (by rw [TT_len]; omega), show 8 + 3 * i = 1 + 3 * i + 7 by omega]
  congr 1
  unfold TT
  rw [servC_same (f := updW f i w) (g := f) fun k _ => by unfold updW; split <;> exact ⟨rfl, rfl⟩, ← tail_setW f w h]
  rfl
theorem TT_setR (h : i < n) (row : List Int) : (TT N j Ln c cc ch f n ++ τ).set (9 + 3 * i) (.rw ty_int (encInt.row row) (f i).r) = TT N j Ln c cc ch (updR f i row) n ++ τ := by
  rw [List.set_append_left _ _ (by rw [TT_len]; omega), show 9 + 3 * i = 2 + 3 * i + 7 by omega]
  congr 1
  unfold TT
  rw [servC_same (f := updR f i row) (g := f) fun k _ => by unfold updR; split <;> exact ⟨rfl, rfl⟩, ← tail_setR f row h]
  rfl
theorem TT_setC (ch' : List Int) : (TT N j Ln c cc ch f n ++ τ).set 2 (.rw ty_int (encInt.row ch') cc) = TT N j Ln c cc ch' f n ++ τ := rfl
theorem TT_0 : (TT N j Ln c cc ch f n ++ τ)[0]? = some (.rw ty_sl_impl_Job [.sl j 0 Ln c] 1) := rfl
theorem TT_2 : (TT N j Ln c cc ch f n ++ τ)[2]? = some (.rw ty_int (encInt.row ch) cc) := rfl
theorem TT_3 : (TT N j Ln c cc ch f n ++ τ)[3]? = some (.rw ty_sl_int (servC N f n) n) := rfl
theorem TT_4 : (TT N j Ln c cc ch f n ++ τ)[4]? = some (.rw ty_impl_ServerRun [.sn, .sn, .sl (N + 2) 0 120 cc, .sl (N + 3) 0 n n] 4) := rfl
theorem TT_5 : (TT N j Ln c cc ch f n ++ τ)[5]? = some (.rw ty_ptr_impl_server (workC N n) n) := rfl
theorem TT_6 : (TT N j Ln c cc ch f n ++ τ)[6]? = some (.rw ty_sl_ptr_impl_server [.sl (N + 5) 0 n n] 1) := rfl
theorem workC_len : (workC N n).length = n := by simp [workC]
theorem servC_len : (servC N f n).length = n := by simp [servC]
theorem rd_workC (h : i < n) : rd (workC N n) i = .p (N + (8 + 3 * i)) 0 := by simp [rd, workC, h]
theorem rd_servC (h : i < n) : rd (servC N f n) i = .sl (N + (9 + 3 * i)) 0 (f i).A.length (f i).r := by simp [rd, servC, h]
end
/-- What is asked of a server in memory. -/
structure SrOk (σ : List AB) (s : SR) : Prop where
  rd : Rd encArr σ s.req s.A
  x : s.x.ok
  w : SvOk s.x s.A s.w
  dl : s.w.dl ≤ 90000
  done : s.w.done ≤ 1000
  len : s.A.length ≤ 1000
  row : s.row.length = s.A.length
def fA (f : Nat → SR) (now : Int) (i : Nat) : Nat → SR := fun k => if k < i then { f k with w := admS (f k).x (f k).A now (f k).w } else f k
theorem fA_succ {f : Nat → SR} {now : Int} {i : Nat} : updW (fA f now i) i (admS (f i).x (f i).A now (f i).w) = fA f now (i + 1) := by
  funext k
  unfold updW fA
  by_cases e : k = i
  · subst e; rw [if_pos rfl, if_neg (Nat.lt_irrefl _), if_pos (Nat.lt_succ_self _)]
  · rw [if_neg e]
    by_cases h : k < i
    · rw [if_pos h, if_pos (by omega)]
    · rw [if_neg h, if_neg (by omega)]
theorem fA_zero (f : Nat → SR) (now : Int) : fA f now 0 = f := by funext k; unfold fA; rw [if_neg (Nat.not_lt_zero _)]
theorem admitN_dl {x : Srv} {A : List Arr} {now B : Int} (h2 : now + x.P ≤ B) : ∀ (n : Nat) {s : Sv}, s.dl ≤ B → (admitN x A now n s).dl ≤ B
  | 0, _, h => h
  | n + 1, s, h => by
    unfold admitN
    split
    · refine admitN_dl h2 n ?_
      unfold comes
      split
      · exact h2
      · exact h
    · exact h
def wL (f : Nat → SR) (n : Nat) : List Sv := (List.range n).map fun k => (f k).w
theorem gV_wL {f : Nat → SR} {n k : Nat} (h : k < n) : gV (wL f n) k = (f k).w := by simp [gV, wL, List.getD_eq_getElem?_getD, h]
def fS (f : Nat → SR) (now : Nat) (q : Nat) : Nat → SR := fun k => if k = q then { f k with w := Go.Ds.serve (f k).x (f k).A (f k).w, row := if ends (f k).A (f k).w = true then (f k).row.set (f k).w.at_ (now + 1) else (f k).row } else f k
theorem cells_ne {σ : List AB} {m b : Nat} {a a' : AV} {l l' : List AV} (h : cellsOf σ m = some (a :: l)) (h' : cellsOf σ b = some (a' :: l')) (hne : a ≠ a') : m ≠ b := by
  rintro rfl
  rw [h] at h'
  cases h'; exact hne rfl
theorem cells_setN {σ : List AB} {m b : Nat} {B : AB} (h : m ≠ b) : cellsOf (σ.set b B) m = cellsOf σ m := by
  unfold cellsOf
  rw [List.getElem?_set_ne (fun e => h e.symm)]
theorem int_row_sl {L : List Int} {a b c d : Nat} {l : List AV} (h : encInt.row L = .sl a b c d :: l) : False := by
  cases L with
  | nil => simp [Enc.row, encs] at h
  | cons x r => simp [Enc.row, encs, encInt] at h
theorem impl_RunServers_2_ {σ τ : List AB} {m j c cc n now : Nat} {ch : List Int} {f : Nat → SR} {L : List Job} {done : List Int} {K : AV → List AB → Prop}
    (hj : cellsOf σ j = some (encJob.row L)) (hm : Mach (σ ++ (TT σ.length j L.length c cc ch f n ++ τ)) m L done now) (hl : L.length ≤ 1000) (hnow : now < 120) (hch : ch.length = 120) (hn : n ≤ 1000) (hf : ∀ k, k < n → SrOk σ (f k))
    (hneg : srvGo n L (wL (fA f now n) n) now done < 0 → K (.i .i64 (edfPick L now done)) (σ ++ (TT σ.length j L.length c cc ch (fA f now n) n ++ τ)))
    (hpos : ∀ q : Nat, srvGo n L (wL (fA f now n) n) now done = q → K (.i .i64 (-1)) (σ ++ (TT σ.length j L.length c cc (ch.set now q) (fS (fA f now n) now q) n ++ τ))) :
    CallWp Try.prog n_impl_RunServers_2 [.p m 0, .p (σ.length + 6) 0, .p σ.length 0, .p (σ.length + 4) 0] (σ ++ (TT σ.length j L.length c cc ch f n ++ τ)) K := by
  refine callC_impl_RunServers_2 (by simp) fun hC _ => ?_
  simp only [c_impl_RunServers_2, not_true_eq_false, not_false_eq_true, decide_true, decide_false, Bool.not_true, Bool.not_false, false_implies, true_implies, and_true, true_and, Bool.false_eq_true, Bool.true_eq_false, implies_true, Bool.not_not, Classical.not_not, go_sem, Int.reduceToNat, List.take_nil, Nat.zero_mul, Nat.reduceEqDiff, Nat.reduceAdd, Nat.reduceLT, Nat.reduceLeDiff, Nat.reduceMul, ↓reduceIte, reduceCtorEq]
  refine impl_edf_ hm (by omega) ?_
  simp only [at_new, set_new, TT_0, TT_2, TT_3, TT_4, TT_5, TT_6, not_true_eq_false, not_false_eq_true, decide_true, decide_false, Bool.not_true, Bool.not_false, false_implies, true_implies, and_true, true_and, Bool.false_eq_true, Bool.true_eq_false, implies_true, Bool.not_not, Classical.not_not, go_sem, Int.reduceToNat, List.take_nil, Nat.zero_mul, Nat.reduceEqDiff, Nat.reduceAdd, Nat.reduceLT, Nat.reduceLeDiff, Nat.reduceMul, ↓reduceIte, reduceCtorEq]
  obtain ⟨⟨j1, c1, d, c2, e1, e2, e3⟩, e4⟩ := hm
  have hW : ∀ k, k < n → gV (wL (fA f now n) n) k = admS (f k).x (f k).A now (f k).w := fun k hk => by
    rw [gV_wL hk]; unfold fA; rw [if_pos hk]
  generalize hWd : wL (fA f now n) n = W at *
  have hok : ∀ i k, k < n → SrOk σ (fA f now i k) ∧ (i ≤ k → fA f now i k = f k) ∧ (k < i → fA f now i k = { f k with w := admS (f k).x (f k).A now (f k).w }) := fun i k hk => by
    have h0 := hf k hk
    refine ⟨?_, fun h => by unfold fA; rw [if_neg (by omega)], fun h => by unfold fA; rw [if_pos h]⟩
    unfold fA
    split
    · have ha := admit_at (f k).x (f k).A now (f k).w
      refine ⟨h0.rd, h0.x, h0.w.admS h0.x (by omega), ?_, by simp only; rw [ha.2]; exact h0.done, h0.len, h0.row⟩
      have h9 := h0.dl
      have h10 := h0.x
      unfold Srv.ok at h10
      exact admitN_dl (B := 90000) (by omega) _ h9
    · exact h0
  refine loop_count n (fun i => ⟨[(0, .p m 0), (1, .p (σ.length + 6) 0), (2, .p σ.length 0), (3, .p (σ.length + 4) 0), (6, .i .i64 (edfPick L now done)), (7, .i .i64 (cand i W)), (13, .sl (σ.length + 5) 0 n n), (14, .i .i64 n), (15, .i .i64 i)], σ ++ (TT σ.length j L.length c cc ch (fA f now i) n ++ τ)⟩)
    (fun i => cellsOf (σ ++ (TT σ.length j L.length c cc ch (fA f now i) n ++ τ)) m = some [.sl j1 0 L.length c1, .sl d 0 L.length c2, .i .i64 now]) (by rw [fA_zero]; exact e1) ?_ fun i hi hJ => ?_
  · rw [fA_zero]
    exact Wk.keep (by simp [look_cons, cand, bestF])
  · simp only [l0_impl_RunServers_2, not_true_eq_false, not_false_eq_true, decide_true, decide_false, Bool.not_true, Bool.not_false, false_implies, true_implies, and_true, true_and, Bool.false_eq_true, Bool.true_eq_false, implies_true, Bool.not_not, Classical.not_not, go_sem, Int.reduceToNat, List.take_nil, Nat.zero_mul, Nat.reduceEqDiff, Nat.reduceAdd, Nat.reduceLT, Nat.reduceLeDiff, Nat.reduceMul, ↓reduceIte, reduceCtorEq]
    refine ⟨fun hin => ?_, fun hge => ?_⟩
    · have hfi := hok i i hin
      have hkk : (TT σ.length j L.length c cc ch (fA f now i) n ++ τ)[8 + 3 * i]? = some (svB (f i)) := by rw [TT_sv hin, hfi.2.1 (Nat.le_refl _)]
      have hset := TT_setW (N := σ.length) (j := j) (Ln := L.length) (c := c) (cc := cc) (ch := ch) (f := fA f now i) (τ := τ) hin (admS (f i).x (f i).A now (f i).w)
      rw [fA_succ, hfi.2.1 (Nat.le_refl _)] at hset
      simp only [at_new, TT_5, rd_workC hin, workC_len, hin, Int.toNat_natCast, onC_of hJ, not_true_eq_false, not_false_eq_true, decide_true, decide_false, Bool.not_true, Bool.not_false, false_implies, true_implies, and_true, true_and, Bool.false_eq_true, Bool.true_eq_false, implies_true, Bool.not_not, Classical.not_not, go_sem, Int.reduceToNat, List.take_nil, Nat.zero_mul, Nat.reduceEqDiff, Nat.reduceAdd, Nat.reduceLT, Nat.reduceLeDiff, Nat.reduceMul, ↓reduceIte, reduceCtorEq]
      refine impl_server_admit_ (x := (f i).x) (req := (f i).req) (A := (f i).A) (s := (f i).w) (hf i hin).rd hkk (hf i hin).x ⟨(hf i hin).w, by have := (hf i hin).dl; omega⟩ (by omega) (hf i hin).len ?_
      rw [hset]
      have hb : cellsOf (σ ++ (TT σ.length j L.length c cc ch (fA f now i) n ++ τ)) (σ.length + (8 + 3 * i)) = some (cellsSv (f i).x (f i).req (f i).w) := by simp only [cellsOf, at_new, hkk]
      have hJ' : cellsOf (σ ++ (TT σ.length j L.length c cc ch (fA f now (i + 1)) n ++ τ)) m = some [.sl j1 0 L.length c1, .sl d 0 L.length c2, .i .i64 now] := by
        rw [← hset, ← set_new, cells_setN (cells_ne hJ hb (by simp))]
        exact hJ
      have hfi' := (hok (i + 1) i hin).2.2 (Nat.lt_succ_self _)
      have hkk' : (TT σ.length j L.length c cc ch (fA f now (i + 1)) n ++ τ)[8 + 3 * i]? = some (blkSv (f i).x (f i).req (admS (f i).x (f i).A now (f i).w)) := by rw [TT_sv hin, hfi']
      have hcs := bestF_succ i (fun k => pend (gV W k)) (fun k => (gV W k).dl)
      change cand (i + 1) W = if pend (gV W i) = true ∧ (cand i W < 0 ∨ (gV W i).dl < (gV W (cand i W).toNat).dl) then (i : Int) else cand i W at hcs
      rw [hW i hin] at hcs
      generalize hw : admS (f i).x (f i).A (now : Int) (f i).w = w at *
      simp only [not_true_eq_false, not_false_eq_true, decide_true, decide_false, Bool.not_true, Bool.not_false, false_implies, true_implies, and_true, true_and, Bool.false_eq_true, Bool.true_eq_false, implies_true, Bool.not_not, Classical.not_not, go_sem, Int.reduceToNat, List.take_nil, Nat.zero_mul, Nat.reduceEqDiff, Nat.reduceAdd, Nat.reduceLT, Nat.reduceLeDiff, Nat.reduceMul, ↓reduceIte, reduceCtorEq]
      refine onCall.by (impl_server_pending_ (x := (f i).x) (req := (f i).req) (s := w) hkk' ⟨rfl, rfl⟩) ?_
      rcases cand_spec i W with ⟨e, _⟩ | ⟨b, e, hb2, _⟩
      · rw [e] at hcs ⊢
        cases hp : pend w
        · rw [if_neg (by rw [hp]; simp)] at hcs
          rw [hcs]
          simp only [not_true_eq_false, not_false_eq_true, decide_true, decide_false, Bool.not_true, Bool.not_false, false_implies, true_implies, and_true, true_and, Bool.false_eq_true, Bool.true_eq_false, implies_true, Bool.not_not, Classical.not_not, go_sem, Int.reduceToNat, List.take_nil, Nat.zero_mul, Nat.reduceEqDiff, Nat.reduceAdd, Nat.reduceLT, Nat.reduceLeDiff, Nat.reduceMul, ↓reduceIte, reduceCtorEq]
          repeat' first | omega | exact hJ' | (exfalso; omega) | exact Wk.keep (by simp [look_cons]) | refine ⟨?_, ?_⟩ | intro _
        · rw [if_pos ⟨hp, .inl (by decide)⟩] at hcs
          rw [hcs]
          simp only [not_true_eq_false, not_false_eq_true, decide_true, decide_false, Bool.not_true, Bool.not_false, false_implies, true_implies, and_true, true_and, Bool.false_eq_true, Bool.true_eq_false, implies_true, Bool.not_not, Classical.not_not, go_sem, Int.reduceToNat, List.take_nil, Nat.zero_mul, Nat.reduceEqDiff, Nat.reduceAdd, Nat.reduceLT, Nat.reduceLeDiff, Nat.reduceMul, ↓reduceIte, reduceCtorEq]
          repeat' first | omega | exact hJ' | (exfalso; omega) | exact Wk.keep (by simp [look_cons]) | refine ⟨?_, ?_⟩ | intro _
      · have hfb := (hok (i + 1) b (by omega)).2.2 (by omega)
        have hkb : (TT σ.length j L.length c cc ch (fA f now (i + 1)) n ++ τ)[8 + 3 * b]? = some (blkSv (f b).x (f b).req (gV W b)) := by rw [TT_sv (by omega), hfb, hW b (by omega)]
        rw [e] at hcs ⊢
        rw [Int.toNat_natCast] at hcs
        have hbn : b < n := by omega
        cases hp : pend w
        · rw [if_neg (by rw [hp]; simp)] at hcs
          rw [hcs]
          simp only [not_true_eq_false, not_false_eq_true, decide_true, decide_false, Bool.not_true, Bool.not_false, false_implies, true_implies, and_true, true_and, Bool.false_eq_true, Bool.true_eq_false, implies_true, Bool.not_not, Classical.not_not, go_sem, Int.reduceToNat, List.take_nil, Nat.zero_mul, Nat.reduceEqDiff, Nat.reduceAdd, Nat.reduceLT, Nat.reduceLeDiff, Nat.reduceMul, ↓reduceIte, reduceCtorEq]
          repeat' first | omega | exact hJ' | (exfalso; omega) | exact Wk.keep (by simp [look_cons]) | refine ⟨?_, ?_⟩ | intro _
        · simp only [at_new, TT_6, TT_5, hkk', hkb, rd_workC hbn, workC_len, cellsSv, Int.toNat_natCast, not_true_eq_false, not_false_eq_true, decide_true, decide_false, Bool.not_true, Bool.not_false, false_implies, true_implies, and_true, true_and, Bool.false_eq_true, Bool.true_eq_false, implies_true, Bool.not_not, Classical.not_not, go_sem, Int.reduceToNat, List.take_nil, Nat.zero_mul, Nat.reduceEqDiff, Nat.reduceAdd, Nat.reduceLT, Nat.reduceLeDiff, Nat.reduceMul, ↓reduceIte, reduceCtorEq]
          by_cases hd : w.dl < (gV W b).dl
          · rw [if_pos ⟨hp, .inr hd⟩] at hcs
            rw [hcs]
            repeat' first | omega | exact hJ' | (exfalso; omega) | exact Wk.keep (by simp [look_cons]) | refine ⟨?_, ?_⟩ | intro _
          · rw [if_neg (fun g => hd (g.2.resolve_left (by omega)))] at hcs
            rw [hcs]
            repeat' first | omega | exact hJ' | (exfalso; omega) | exact Wk.keep (by simp [look_cons]) | refine ⟨?_, ?_⟩ | intro _
    · have ei : i = n := by omega
      subst ei
      have hgo : srvGo i L W now done = if cand i W < 0 ∨ (0 ≤ edfPick L now done ∧ (L.getD (edfPick L now done).toNat default).D ≤ (gV W (cand i W).toNat).dl) then -1 else cand i W := rfl
      have hp0 : Fin (σ.length + ((TT σ.length j L.length c cc ch f i).length + τ.length)) (σ ++ (TT σ.length j L.length c cc ch (fA f now i) i ++ τ)) (.i .i64 (edfPick L now done)) K ∨ True := .inr trivial
      rcases cand_spec i W with ⟨e, _⟩ | ⟨b, e, hb2, hpb, _⟩
      · rw [e, if_pos (.inl (by decide))] at hgo
        rw [e]
        simp only [not_true_eq_false, not_false_eq_true, decide_true, decide_false, Bool.not_true, Bool.not_false, false_implies, true_implies, and_true, true_and, Bool.false_eq_true, Bool.true_eq_false, implies_true, Bool.not_not, Classical.not_not, go_sem, Int.reduceToNat, List.take_nil, Nat.zero_mul, Nat.reduceEqDiff, Nat.reduceAdd, Nat.reduceLT, Nat.reduceLeDiff, Nat.reduceMul, ↓reduceIte, reduceCtorEq]
        refine ⟨fun h => absurd (by decide) h, fun _ => Fin.plain (hneg (by rw [hgo]; decide))⟩
      · have hfb := (hok i b hb2).2.2 hb2
        have hkb : (TT σ.length j L.length c cc ch (fA f now i) i ++ τ)[8 + 3 * b]? = some (blkSv (f b).x (f b).req (gV W b)) := by rw [TT_sv hb2, hfb, hW b hb2]
        rw [e, Int.toNat_natCast] at hgo
        rw [e]
        have hwb : SvOk (f b).x (f b).A (gV W b) := by
          have := (hok i b hb2).1.w
          rw [hfb] at this
          rw [hW b hb2]; exact this
        have hwdl : (gV W b).dl ≤ 100000 := by
          have := (hok i b hb2).1.dl
          rw [hfb] at this
          rw [hW b hb2]
          simp only at this; omega
        have hwd : (gV W b).done ≤ 1000 := by
          have := (hok i b hb2).1.done
          rw [hfb] at this
          rw [hW b hb2]; exact this
        have hm2 : cellsOf (σ ++ (TT σ.length j L.length c cc (ch.set now b) (fA f now i) i ++ τ)) m = some [.sl j1 0 L.length c1, .sl d 0 L.length c2, .i .i64 now] := by
          rw [← TT_setC (ch := ch) (ch.set now b), ← set_new, cells_setN]
          · exact hJ
          · rintro rfl
            have h2 : (σ ++ (TT σ.length j L.length c cc ch (fA f now i) i ++ τ))[σ.length + 2]? = some (.rw ty_int (encInt.row ch) cc) := by rw [at_new]; rfl
            simp only [cellsOf, h2] at hJ
            exact int_row_sl (Option.some.inj hJ)
        have hkb2 : (TT σ.length j L.length c cc (ch.set now b) (fA f now i) i ++ τ)[8 + 3 * b]? = some (blkSv (f b).x (f b).req (gV W b)) := by rw [TT_sv hb2, hfb, hW b hb2]
        have hset1 := TT_setW (N := σ.length) (j := j) (Ln := L.length) (c := c) (cc := cc) (ch := ch.set now b) (f := fA f now i) (τ := τ) hb2 (Go.Ds.serve (f b).x (f b).A (gV W b))
        rw [show (fA f now i b).x = (f b).x by rw [hfb], show (fA f now i b).req = (f b).req by rw [hfb]] at hset1
        have hbc : cellsOf (σ ++ (TT σ.length j L.length c cc (ch.set now b) (fA f now i) i ++ τ)) (σ.length + (8 + 3 * b)) = some (cellsSv (f b).x (f b).req (gV W b)) := by simp only [cellsOf, at_new, hkb2]
        have hm3 : cellsOf (σ ++ (TT σ.length j L.length c cc (ch.set now b) (updW (fA f now i) b (Go.Ds.serve (f b).x (f b).A (gV W b))) i ++ τ)) m = some [.sl j1 0 L.length c1, .sl d 0 L.length c2, .i .i64 now] := by
          rw [← hset1, ← set_new, cells_setN (cells_ne hm2 hbc (by simp))]
          exact hm2
        have hub : updW (fA f now i) b (Go.Ds.serve (f b).x (f b).A (gV W b)) b = { f b with w := Go.Ds.serve (f b).x (f b).A (gV W b) } := by
          unfold updW; rw [if_pos rfl, hfb]
        have hUA : (updW (fA f now i) b (Go.Ds.serve (f b).x (f b).A (gV W b)) b).A = (f b).A := by rw [hub]
        have hUr : (updW (fA f now i) b (Go.Ds.serve (f b).x (f b).A (gV W b)) b).r = (f b).r := by rw [hub]
        have hUrow : (updW (fA f now i) b (Go.Ds.serve (f b).x (f b).A (gV W b)) b).row = (f b).row := by rw [hub]
        have hlrow : (gV W b).at_ < (f b).A.length := by
          have h1 := of_decide_eq_true hpb
          have h2 := hwb.cl
          omega
        have hlrow2 : (gV W b).at_ < (f b).row.length := by rw [(hf b hb2).row]; exact hlrow
        have hfSn : ends (f b).A (gV W b) = false → ∀ k, updW (fA f now i) b (Go.Ds.serve (f b).x (f b).A (gV W b)) k = fS (fA f now i) now b k := fun hen k => by
          unfold updW fS
          by_cases e : k = b
          · subst e
            rw [if_pos rfl, if_pos rfl, hfb, ← hW k hb2, hen]; rfl
          · rw [if_neg e, if_neg e]
        have hfSy : ends (f b).A (gV W b) = true → ∀ k, updR (updW (fA f now i) b (Go.Ds.serve (f b).x (f b).A (gV W b))) b ((f b).row.set (gV W b).at_ (now + 1)) k = fS (fA f now i) now b k := fun hen k => by
          unfold updR updW fS
          by_cases e : k = b
          · subst e
            rw [if_pos rfl, if_pos rfl, if_pos rfl, hfb, ← hW k hb2, hen]; rfl
          · rw [if_neg e, if_neg e, if_neg e]
        have hsetr := TT_setR (N := σ.length) (j := j) (Ln := L.length) (c := c) (cc := cc) (ch := ch.set now b) (f := updW (fA f now i) b (Go.Ds.serve (f b).x (f b).A (gV W b))) (τ := τ) hb2 ((f b).row.set (gV W b).at_ (now + 1))
        rw [hUr] at hsetr
        rcases edf_fair L now done with e5 | ⟨q, e5, hq, _⟩
        · rw [e5, if_neg (by omega)] at hgo
          rw [e5]
          simp only [at_new, set_new, TT_0, TT_2, TT_3, TT_4, TT_5, TT_6, hkb, rd_workC hb2, workC_len, cellsSv, Int.toNat_natCast, not_true_eq_false, not_false_eq_true, decide_true, decide_false, Bool.not_true, Bool.not_false, false_implies, true_implies, and_true, true_and, Bool.false_eq_true, Bool.true_eq_false, implies_true, Bool.not_not, Classical.not_not, go_sem, Int.reduceToNat, List.take_nil, Nat.zero_mul, Nat.reduceEqDiff, Nat.reduceAdd, Nat.reduceLT, Nat.reduceLeDiff, Nat.reduceMul, ↓reduceIte, reduceCtorEq]
          have hneg1 : ¬ (0 : Int) ≤ -1 := by decide
          have hbneg : ¬ (b : Int) < 0 := by omega
          simp only [hneg1, hbneg, onC_of hJ, splI (show now < ch.length by omega), TT_setC, lenI, hch, hnow, not_true_eq_false, not_false_eq_true, decide_true, decide_false, Bool.not_true, Bool.not_false, false_implies, true_implies, and_true, true_and, Bool.false_eq_true, Bool.true_eq_false, implies_true, Bool.not_not, Classical.not_not, go_sem, Int.reduceToNat, List.take_nil, Nat.zero_mul, Nat.reduceEqDiff, Nat.reduceAdd, Nat.reduceLT, Nat.reduceLeDiff, Nat.reduceMul, ↓reduceIte, reduceCtorEq]
          have hg : srvGo i L W now done = b := hgo
          refine ⟨by omega, seq_join (fun _ : Unit => ⟨[], σ ++ (TT σ.length j L.length c cc (ch.set now b) (fS (fA f now i) now b) i ++ τ)⟩) (fun _ => True) ?_ fun _ _ => ?_⟩
          · simp only [at_new, at_new0, set_new, TT_setC, TT_0, TT_2, TT_3, TT_4, TT_5, TT_6, hkb2, rd_workC hb2, workC_len, cellsSv, hb2, Int.toNat_natCast, not_true_eq_false, not_false_eq_true, decide_true, decide_false, Bool.not_true, Bool.not_false, false_implies, true_implies, and_true, true_and, Bool.false_eq_true, Bool.true_eq_false, implies_true, Bool.not_not, Classical.not_not, go_sem, Int.reduceToNat, List.take_nil, Nat.zero_mul, Nat.reduceEqDiff, Nat.reduceAdd, Nat.reduceLT, Nat.reduceLeDiff, Nat.reduceMul, ↓reduceIte, reduceCtorEq]
            refine impl_server_serve_ (x := (f b).x) (req := (f b).req) (A := (f b).A) (s := gV W b) (hf b hb2).rd hkb2 (hf b hb2).x ⟨hwb, hwdl⟩ hpb hwd (hf b hb2).len ?_
            rw [hset1]
            cases hen : ends (f b).A (gV W b)
            · simp only [not_true_eq_false, not_false_eq_true, decide_true, decide_false, Bool.not_true, Bool.not_false, false_implies, true_implies, and_true, true_and, Bool.false_eq_true, Bool.true_eq_false, implies_true, Bool.not_not, Classical.not_not, go_sem, Int.reduceToNat, List.take_nil, Nat.zero_mul, Nat.reduceEqDiff, Nat.reduceAdd, Nat.reduceLT, Nat.reduceLeDiff, Nat.reduceMul, ↓reduceIte, reduceCtorEq]
              rw [TT_congr (fun k hk => hfSn hen k)]
              exact kJ_intro () trivial (Wk.keep (by simp [look_cons]))
            · simp only [at_new, at_new0, set_new, TT_0, TT_2, TT_3, TT_4, TT_5, TT_6, onC_of hm3, rd_servC hb2, servC_len, hb2, hUA, hUr, hlrow, Int.toNat_natCast, not_true_eq_false, not_false_eq_true, decide_true, decide_false, Bool.not_true, Bool.not_false, false_implies, true_implies, and_true, true_and, Bool.false_eq_true, Bool.true_eq_false, implies_true, Bool.not_not, Classical.not_not, go_sem, Int.reduceToNat, List.take_nil, Nat.zero_mul, Nat.reduceEqDiff, Nat.reduceAdd, Nat.reduceLT, Nat.reduceLeDiff, Nat.reduceMul, ↓reduceIte, reduceCtorEq]
              rw [TT_row hb2]
              simp only [rowB, hUrow, hUr, splI hlrow2, lenI, (hf b hb2).row, not_true_eq_false, not_false_eq_true, decide_true, decide_false, Bool.not_true, Bool.not_false, false_implies, true_implies, and_true, true_and, Bool.false_eq_true, Bool.true_eq_false, implies_true, Bool.not_not, Classical.not_not, go_sem, Int.reduceToNat, List.take_nil, Nat.zero_mul, Nat.reduceEqDiff, Nat.reduceAdd, Nat.reduceLT, Nat.reduceLeDiff, Nat.reduceMul, ↓reduceIte, reduceCtorEq]
              rw [hsetr, TT_congr (fun k hk => hfSy hen k)]
              exact ⟨by omega, hlrow, kJ_intro () trivial (Wk.keep (by simp [look_cons]))⟩
          · simp only [not_true_eq_false, not_false_eq_true, decide_true, decide_false, Bool.not_true, Bool.not_false, false_implies, true_implies, and_true, true_and, Bool.false_eq_true, Bool.true_eq_false, implies_true, Bool.not_not, Classical.not_not, go_sem, Int.reduceToNat, List.take_nil, Nat.zero_mul, Nat.reduceEqDiff, Nat.reduceAdd, Nat.reduceLT, Nat.reduceLeDiff, Nat.reduceMul, ↓reduceIte, reduceCtorEq]
            exact Fin.plain (hpos b hg)
        · have gq : L.getD q default = L[q] := by simp [List.getD_eq_getElem?_getD, hq]
          rw [e5, Int.toNat_natCast, gq] at hgo
          rw [e5] at hneg ⊢
          simp only [at_new, at_new0, set_new, TT_0, TT_2, TT_3, TT_4, TT_5, TT_6, hkb, rd_workC hb2, workC_len, cellsSv, Int.toNat_natCast, onC_old hj, rdJ2 hq, lenJ, hq, not_true_eq_false, not_false_eq_true, decide_true, decide_false, Bool.not_true, Bool.not_false, false_implies, true_implies, and_true, true_and, Bool.false_eq_true, Bool.true_eq_false, implies_true, Bool.not_not, Classical.not_not, go_sem, Int.reduceToNat, List.take_nil, Nat.zero_mul, Nat.reduceEqDiff, Nat.reduceAdd, Nat.reduceLT, Nat.reduceLeDiff, Nat.reduceMul, ↓reduceIte, reduceCtorEq]
          have hbneg : ¬ (b : Int) < 0 := by omega
          simp only [hbneg, onC_of hJ, splI (show now < ch.length by omega), TT_setC, lenI, hch, hnow, not_true_eq_false, not_false_eq_true, decide_true, decide_false, Bool.not_true, Bool.not_false, false_implies, true_implies, and_true, true_and, Bool.false_eq_true, Bool.true_eq_false, implies_true, Bool.not_not, Classical.not_not, go_sem, Int.reduceToNat, List.take_nil, Nat.zero_mul, Nat.reduceEqDiff, Nat.reduceAdd, Nat.reduceLT, Nat.reduceLeDiff, Nat.reduceMul, ↓reduceIte, reduceCtorEq]
          refine ⟨by omega, by omega, by omega, fun hle => Fin.plain (hneg (by rw [hgo, if_pos (.inr ⟨by omega, hle⟩)]; decide)), fun hgt => ⟨by omega, ?_⟩⟩
          have hg : srvGo i L W now done = b := by
            rw [hgo, if_neg]
            rintro (h | h)
            · omega
            · exact hgt h.2
          refine seq_join (fun _ : Unit => ⟨[], σ ++ (TT σ.length j L.length c cc (ch.set now b) (fS (fA f now i) now b) i ++ τ)⟩) (fun _ => True) ?_ fun _ _ => ?_
          · simp only [at_new, at_new0, set_new, TT_setC, TT_0, TT_2, TT_3, TT_4, TT_5, TT_6, hkb2, rd_workC hb2, workC_len, cellsSv, hb2, Int.toNat_natCast, not_true_eq_false, not_false_eq_true, decide_true, decide_false, Bool.not_true, Bool.not_false, false_implies, true_implies, and_true, true_and, Bool.false_eq_true, Bool.true_eq_false, implies_true, Bool.not_not, Classical.not_not, go_sem, Int.reduceToNat, List.take_nil, Nat.zero_mul, Nat.reduceEqDiff, Nat.reduceAdd, Nat.reduceLT, Nat.reduceLeDiff, Nat.reduceMul, ↓reduceIte, reduceCtorEq]
            refine impl_server_serve_ (x := (f b).x) (req := (f b).req) (A := (f b).A) (s := gV W b) (hf b hb2).rd hkb2 (hf b hb2).x ⟨hwb, hwdl⟩ hpb hwd (hf b hb2).len ?_
            rw [hset1]
            cases hen : ends (f b).A (gV W b)
            · simp only [not_true_eq_false, not_false_eq_true, decide_true, decide_false, Bool.not_true, Bool.not_false, false_implies, true_implies, and_true, true_and, Bool.false_eq_true, Bool.true_eq_false, implies_true, Bool.not_not, Classical.not_not, go_sem, Int.reduceToNat, List.take_nil, Nat.zero_mul, Nat.reduceEqDiff, Nat.reduceAdd, Nat.reduceLT, Nat.reduceLeDiff, Nat.reduceMul, ↓reduceIte, reduceCtorEq]
              rw [TT_congr (fun k hk => hfSn hen k)]
              exact kJ_intro () trivial (Wk.keep (by simp [look_cons]))
            · simp only [at_new, at_new0, set_new, TT_0, TT_2, TT_3, TT_4, TT_5, TT_6, onC_of hm3, rd_servC hb2, servC_len, hb2, hUA, hUr, hlrow, Int.toNat_natCast, not_true_eq_false, not_false_eq_true, decide_true, decide_false, Bool.not_true, Bool.not_false, false_implies, true_implies, and_true, true_and, Bool.false_eq_true, Bool.true_eq_false, implies_true, Bool.not_not, Classical.not_not, go_sem, Int.reduceToNat, List.take_nil, Nat.zero_mul, Nat.reduceEqDiff, Nat.reduceAdd, Nat.reduceLT, Nat.reduceLeDiff, Nat.reduceMul, ↓reduceIte, reduceCtorEq]
              rw [TT_row hb2]
              simp only [rowB, hUrow, hUr, splI hlrow2, lenI, (hf b hb2).row, not_true_eq_false, not_false_eq_true, decide_true, decide_false, Bool.not_true, Bool.not_false, false_implies, true_implies, and_true, true_and, Bool.false_eq_true, Bool.true_eq_false, implies_true, Bool.not_not, Classical.not_not, go_sem, Int.reduceToNat, List.take_nil, Nat.zero_mul, Nat.reduceEqDiff, Nat.reduceAdd, Nat.reduceLT, Nat.reduceLeDiff, Nat.reduceMul, ↓reduceIte, reduceCtorEq]
              rw [hsetr, TT_congr (fun k hk => hfSy hen k)]
              exact ⟨by omega, hlrow, kJ_intro () trivial (Wk.keep (by simp [look_cons]))⟩
          · simp only [not_true_eq_false, not_false_eq_true, decide_true, decide_false, Bool.not_true, Bool.not_false, false_implies, true_implies, and_true, true_and, Bool.false_eq_true, Bool.true_eq_false, implies_true, Bool.not_not, Classical.not_not, go_sem, Int.reduceToNat, List.take_nil, Nat.zero_mul, Nat.reduceEqDiff, Nat.reduceAdd, Nat.reduceLT, Nat.reduceLeDiff, Nat.reduceMul, ↓reduceIte, reduceCtorEq]
            exact Fin.plain (hpos b hg)
end Go.Proofs.Ytnlciginmeebhaa
