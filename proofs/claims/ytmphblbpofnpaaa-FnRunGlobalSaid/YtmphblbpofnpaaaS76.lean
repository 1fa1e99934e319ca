import Derived.Test.YtmphblbpofnpaaaS74
import Derived.Test.YtmphblbpofnpaaaS75
import Derived.Test.YtmphblbpofnpaaaS3
import Derived.Test.YtmphblbpofnpaaaM47
namespace Go.Proofs.Ytmphblbpofnpaaa
open Go.Abs Go.Ds
set_option linter.unusedSimpArgs false
set_option linter.unusedVariables false
set_option maxRecDepth 20000
set_option maxHeartbeats 2000000
theorem impl_isCoresG_ (m : Int) {σ : List AB} {K : AV → List AB → Prop} (hk : K (.b (decide (1 ≤ m ∧ m ≤ 5))) σ) : CallWp Try.prog n_impl_isCores [.i .i64 m] σ K := by
  refine call_impl_isCores (by simp) ?_
  simp only [c_impl_isCores, not_true_eq_false, not_false_eq_true, decide_true, decide_false, Bool.not_true, Bool.not_false, false_implies, true_implies, and_true, true_and, Bool.false_eq_true, Bool.true_eq_false, implies_true, Bool.not_not, Classical.not_not, go_sem, Int.reduceToNat, List.take_nil, Nat.zero_mul, Nat.reduceEqDiff, Nat.reduceAdd, Nat.reduceLT, Nat.reduceLeDiff, Nat.reduceMul, ↓reduceIte, reduceCtorEq]
  refine impl_in_ _ _ _ ?_
  simp only [not_true_eq_false, not_false_eq_true, decide_true, decide_false, Bool.not_true, Bool.not_false, false_implies, true_implies, and_true, true_and, Bool.false_eq_true, Bool.true_eq_false, implies_true, Bool.not_not, Classical.not_not, go_sem, Int.reduceToNat, List.take_nil, Nat.zero_mul, Nat.reduceEqDiff, Nat.reduceAdd, Nat.reduceLT, Nat.reduceLeDiff, Nat.reduceMul, ↓reduceIte, reduceCtorEq]
  exact Fin.plain hk
def cmpI (x y : Int) : Int := if x < y then -1 else if y < x then 1 else 0
theorem cmpI_neg {x y : Int} : cmpI x y < 0 ↔ x < y := by
  unfold cmpI
  split
  · exact ⟨fun _ => by assumption, fun _ => by decide⟩
  · split
    · exact ⟨fun h => absurd h (by decide), fun h => by omega⟩
    · exact ⟨fun h => absurd h (by decide), fun h => by omega⟩
theorem cmp_isNaN_ (x : Int) {σ : List AB} {K : AV → List AB → Prop} (hk : K (.b false) σ) : CallWp Try.prog n_cmp_isNaN_int [.i .i64 x] σ K := by
  refine call_cmp_isNaN_int (by simp) ?_
  simp only [c_cmp_isNaN_int, not_true_eq_false, not_false_eq_true, decide_true, decide_false, Bool.not_true, Bool.not_false, false_implies, true_implies, and_true, true_and, Bool.false_eq_true, Bool.true_eq_false, implies_true, Bool.not_not, Classical.not_not, go_sem, Int.reduceToNat, List.take_nil, Nat.zero_mul, Nat.reduceEqDiff, Nat.reduceAdd, Nat.reduceLT, Nat.reduceLeDiff, Nat.reduceMul, ↓reduceIte, reduceCtorEq]
  first
    | exact Fin.plain hk
    | (refine ⟨fun h => ?_, fun h => ?_⟩ <;> exact Fin.plain hk)
theorem cmp_Compare_ (x y : Int) {σ : List AB} {K : AV → List AB → Prop} (hk : K (.i .i64 (cmpI x y)) σ) : CallWp Try.prog n_cmp_Compare_int [.i .i64 x, .i .i64 y] σ K := by
  refine call_cmp_Compare_int (by simp) ?_
  simp only [c_cmp_Compare_int, not_true_eq_false, not_false_eq_true, decide_true, decide_false, Bool.not_true, Bool.not_false, false_implies, true_implies, and_true, true_and, Bool.false_eq_true, Bool.true_eq_false, implies_true, Bool.not_not, Classical.not_not, go_sem, Int.reduceToNat, List.take_nil, Nat.zero_mul, Nat.reduceEqDiff, Nat.reduceAdd, Nat.reduceLT, Nat.reduceLeDiff, Nat.reduceMul, ↓reduceIte, reduceCtorEq]
  refine cmp_isNaN_ x ?_
  simp only [not_true_eq_false, not_false_eq_true, decide_true, decide_false, Bool.not_true, Bool.not_false, false_implies, true_implies, and_true, true_and, Bool.false_eq_true, Bool.true_eq_false, implies_true, Bool.not_not, Classical.not_not, go_sem, Int.reduceToNat, List.take_nil, Nat.zero_mul, Nat.reduceEqDiff, Nat.reduceAdd, Nat.reduceLT, Nat.reduceLeDiff, Nat.reduceMul, ↓reduceIte, reduceCtorEq]
  refine cmp_isNaN_ y ?_
  simp only [not_true_eq_false, not_false_eq_true, decide_true, decide_false, Bool.not_true, Bool.not_false, false_implies, true_implies, and_true, true_and, Bool.false_eq_true, Bool.true_eq_false, implies_true, Bool.not_not, Classical.not_not, go_sem, Int.reduceToNat, List.take_nil, Nat.zero_mul, Nat.reduceEqDiff, Nat.reduceAdd, Nat.reduceLT, Nat.reduceLeDiff, Nat.reduceMul, ↓reduceIte, reduceCtorEq]
  refine ⟨fun h => Fin.plain ?_, fun h => ⟨fun h2 => Fin.plain ?_, fun h2 => Fin.plain ?_⟩⟩
  · rw [cmpI, if_pos h] at hk; exact hk
  · rw [cmpI, if_neg h, if_pos h2] at hk; exact hk
  · rw [cmpI, if_neg h, if_neg h2] at hk; exact hk
theorem impl_RunGlobal_1_ {L : List Job} {σ : List AB} {q j c : Nat} {x y : Int} (hl : L.length ≤ 1000000) (hq : cellsOf σ q = some [.sl j 0 L.length c]) (hj : cellsOf σ j = some (encJob.row L)) (hx : 0 ≤ x ∧ x < L.length) (hy : 0 ≤ y ∧ y < L.length) {K : AV → List AB → Prop} (hk : K (.i .i64 (cmpI (dOf L x) (dOf L y))) σ) :
    CallWp Try.prog n_impl_RunGlobal_1 [.i .i64 x, .i .i64 y, .p q 0] σ K := by
  obtain ⟨a, rfl⟩ := Int.eq_ofNat_of_zero_le hx.1
  obtain ⟨b, rfl⟩ := Int.eq_ofNat_of_zero_le hy.1
  have ha : a < L.length := by omega
  have hb : b < L.length := by omega
  have ea : dOf L (a : Int) = L[a].D := by simp [dOf, List.getD_eq_getElem?_getD, ha]
  have eb : dOf L (b : Int) = L[b].D := by simp [dOf, List.getD_eq_getElem?_getD, hb]
  rw [ea, eb] at hk
  refine call_impl_RunGlobal_1 (by simp) ?_
  simp only [c_impl_RunGlobal_1, onC_of hq, onC_of hj, rdJ2 ha, rdJ2 hb, lenJ, not_true_eq_false, not_false_eq_true, decide_true, decide_false, Bool.not_true, Bool.not_false, false_implies, true_implies, and_true, true_and, Bool.false_eq_true, Bool.true_eq_false, implies_true, Bool.not_not, Classical.not_not, go_sem, Int.reduceToNat, List.take_nil, Nat.zero_mul, Nat.reduceEqDiff, Nat.reduceAdd, Nat.reduceLT, Nat.reduceLeDiff, Nat.reduceMul, ↓reduceIte, reduceCtorEq]
  refine ⟨ha, by omega, hb, by omega, onCall.by (cmp_Compare_ _ _ ⟨rfl, rfl⟩) ?_⟩
  simp only [not_true_eq_false, not_false_eq_true, decide_true, decide_false, Bool.not_true, Bool.not_false, false_implies, true_implies, and_true, true_and, Bool.false_eq_true, Bool.true_eq_false, implies_true, Bool.not_not, Classical.not_not, go_sem, Int.reduceToNat, List.take_nil, Nat.zero_mul, Nat.reduceEqDiff, Nat.reduceAdd, Nat.reduceLT, Nat.reduceLeDiff, Nat.reduceMul, ↓reduceIte, reduceCtorEq]
  exact Fin.plain hk
def RdG (σ : List AB) (v : AV) (R : List (List Int)) : Prop :=
  (∃ n o cap cs, v = .sl n o R.length cap ∧ cellsOf σ n = some cs ∧ o + R.length ≤ cs.length ∧ ∀ k (h : k < R.length), Rd encInt σ (rd cs (o + k)) R[k]) ∨ (v = .sn ∧ R = [] ∧ 0 < σ.length)
theorem RdG.app {σ τ : List AB} {v : AV} {R : List (List Int)} (h : RdG σ v R) : RdG (σ ++ τ) v R := by
  rcases h with ⟨n, o, cap, cs, h1, h2, h3, h4⟩ | ⟨h1, h2, h3⟩
  · exact .inl ⟨n, o, cap, cs, h1, cells_old h2 τ, h3, fun k hk => (h4 k hk).app⟩
  · exact .inr ⟨h1, h2, by rw [List.length_append]; omega⟩
theorem RdG.data {σ : List AB} {v : AV} {R : List (List Int)} (h : RdG σ v R) : v.data = true := by
  rcases h with ⟨n, o, cap, cs, rfl, _⟩ | ⟨rfl, _⟩ <;> rfl
def GlobAns (σ : List AB) (x : AV) (R : List (List Int)) (F : List Int) : Prop := ∃ v1 v2, x = .agg [v1, v2] ∧ RdG σ v1 R ∧ Rd encInt σ v2 F
theorem GlobAns.app {σ τ : List AB} {x : AV} {R : List (List Int)} {F : List Int} (h : GlobAns σ x R F) : GlobAns (σ ++ τ) x R F := by
  obtain ⟨v1, v2, h0, h1, h2⟩ := h
  exact ⟨v1, v2, h0, h1.app, h2.app⟩
def GlobAnsN (N : Nat) (σ : List AB) (x : AV) (R : List (List Int)) (F : List Int) : Prop := ∀ σ', σ'.length = σ.length → (∀ n, N ≤ n → σ'[n]? = σ[n]?) → GlobAns σ' x R F
theorem GlobAnsN.plain {N : Nat} {σ : List AB} {x : AV} {R : List (List Int)} {F : List Int} (h : GlobAnsN N σ x R F) : GlobAns σ x R F := h σ rfl fun _ _ => rfl
theorem GlobAnsN.set {N n : Nat} {σ : List AB} {x : AV} {R : List (List Int)} {F : List Int} (h : GlobAnsN N σ x R F) (hn : n < N) (B : AB) : GlobAns (σ.set n B) x R F :=
  h _ (List.length_set ..) fun m hm => by rw [List.getElem?_set_ne (by omega)]
/-- What a run holds in memory. -/
structure QG where
  t : Nat
  done : List Int
  fin : List Int
  cur : List Int
  R : List (List Int)
  n : Nat
def gRw (R : List (List Int)) (k : Nat) : List Int := R.getD k []
def rowC (p : Nat → Nat) (R : List (List Int)) (n k : Nat) : AV := if k < n ∧ gRw R k ≠ [] then .sl (p (k + 6)) 0 (gRw R k).length (gRw R k).length else .sn
def rowsC (p : Nat → Nat) (R : List (List Int)) (n : Nat) : List AV := (List.range 120).map (rowC p R n)
section
variable (L : List Job) (j jc : Nat)
def GB (q : QG) (p c : Nat → Nat) : Nat → Option AB
  | 0 => some (.rw ty_impl_machine [.sl j 0 L.length jc, .sl (p 1) 0 L.length L.length, .i .i64 q.t] 3)
  | 1 => some (.rw ty_int (encInt.row q.done) L.length)
  | 2 => some (.rw ty_sl_int (rowsC p q.R q.n) 120)
  | 3 => some (.rw ty_int (encInt.row q.fin) (c 3 * 1))
  | 4 => some (.rw ty_impl_GlobalRun [.sl (p 2) 0 120 120, .sl (p 3) 0 L.length (c 3)] 2)
  | 5 => if q.cur = [] then none else some (.rw ty_int (encInt.row q.cur) (c 5 * 1))
  | k + 6 => if k < q.R.length ∧ gRw q.R k ≠ [] then some (.rw ty_int (encInt.row (gRw q.R k)) (c (k + 6) * 1)) else none
structure GF (σ : List AB) (q : QG) (H : List AB) (p c : Nat → Nat) : Prop where
  base : Base σ H 2
  box : H[σ.length]? = some (.rw ty_sl_impl_Job [.sl j 0 L.length jc] 1)
  res : H[σ.length + 1]? = some (.rw ty_impl_GlobalRun [.sn, .sn] 2)
  lay : Lay (σ.length + 2) H p (GB L j jc q p c)
end
section
variable {L : List Job} {j jc : Nat} {σ H : List AB} {q q' : QG} {p c : Nat → Nat}
theorem GF.app (h : GF L j jc σ q H p c) (τ : List AB) : GF L j jc σ q (H ++ τ) p c :=
  ⟨h.base.app τ, at_old h.box τ, at_old h.res τ, h.lay.junk τ⟩
theorem GF.upd (h : GF L j jc σ q H p c) {i : Nat} {b b' : AB} (hi : GB L j jc q p c i = some b) (hB : ∀ k x, GB L j jc q' p c k = some x → up (GB L j jc q p c) i (some b') k = some x) : GF L j jc σ q' (H.set (p i) b') p c := by
  have hg := h.lay.ge hi
  exact ⟨h.base.set (by omega) _, by rw [List.getElem?_set_ne (by omega)]; exact h.box, by rw [List.getElem?_set_ne (by omega)]; exact h.res, h.lay.upd hi b' hB⟩
theorem GF.grow (h : GF L j jc σ q H p c) {i : Nat} {b : AB} (hi : GB L j jc q p c i = some b) (τ : List AB) (new : AB) {n : Nat} {c' : Nat → Nat} (hn : n = H.length + τ.length) (hB : ∀ k x, GB L j jc q' (up p i n) c' k = some x → up (GB L j jc q p c) i (some new) k = some x) : GF L j jc σ q' ((H ++ τ).set (p i) .dead ++ [new]) (up p i n) c' := by
  have hg := h.lay.ge hi
  have hlen := h.base.2
  refine ⟨((h.base.app τ).set (by omega) _).app _, at_old ?_ _, at_old ?_ _, h.lay.grow hlen hi τ new hn hB⟩
  · rw [List.getElem?_set_ne (by omega)]; exact at_old h.box τ
  · rw [List.getElem?_set_ne (by omega)]; exact at_old h.res τ
theorem GF.born (h : GF L j jc σ q H p c) {i : Nat} (hi : GB L j jc q p c i = none) (τ : List AB) (new : AB) {n : Nat} {c' : Nat → Nat} (hn : n = H.length + τ.length) (hB : ∀ k x, GB L j jc q' (up p i n) c' k = some x → up (GB L j jc q p c) i (some new) k = some x) : GF L j jc σ q' ((H ++ τ) ++ [new]) (up p i n) c' :=
  ⟨(h.base.app τ).app _, at_old (at_old h.box τ) _, at_old (at_old h.res τ) _, h.lay.born h.base.2 hi τ new hn hB⟩
theorem GF.a0 (h : GF L j jc σ q H p c) : H[p 0]? = some (.rw ty_impl_machine [.sl j 0 L.length jc, .sl (p 1) 0 L.length L.length, .i .i64 q.t] 3) := h.lay.at (i := 0) rfl
theorem GF.a1 (h : GF L j jc σ q H p c) : H[p 1]? = some (.rw ty_int (encInt.row q.done) L.length) := h.lay.at (i := 1) rfl
theorem GF.a2 (h : GF L j jc σ q H p c) : H[p 2]? = some (.rw ty_sl_int (rowsC p q.R q.n) 120) := h.lay.at (i := 2) rfl
theorem GF.a3 (h : GF L j jc σ q H p c) : H[p 3]? = some (.rw ty_int (encInt.row q.fin) (c 3 * 1)) := h.lay.at (i := 3) rfl
theorem GF.a4 (h : GF L j jc σ q H p c) : H[p 4]? = some (.rw ty_impl_GlobalRun [.sl (p 2) 0 120 120, .sl (p 3) 0 L.length (c 3)] 2) := h.lay.at (i := 4) rfl
theorem GF.a5 (h : GF L j jc σ q H p c) (hn : q.cur ≠ []) : H[p 5]? = some (.rw ty_int (encInt.row q.cur) (c 5 * 1)) := h.lay.at (i := 5) (if_neg hn)
theorem cells_rwG {H : List AB} {n : Nat} {ty : TypeId} {cs : List AV} {r : Nat} (h : H[n]? = some (.rw ty cs r)) : cellsOf H n = some cs := by simp only [cellsOf, h]
theorem GF.mach (h : GF L j jc σ q H p c) (hj : cellsOf σ j = some (encJob.row L)) (hd : q.done.length = L.length) : Mach H (p 0) L q.done q.t :=
  ⟨⟨j, jc, p 1, L.length, cells_rwG h.a0, h.base.cells hj, cells_rwG h.a1⟩, hd⟩
theorem rowsC_congr {p p' : Nat → Nat} {R R' : List (List Int)} {n : Nat} (h : ∀ k, k < n → p' (k + 6) = p (k + 6) ∧ gRw R' k = gRw R k) : rowsC p' R' n = rowsC p R n := by
  unfold rowsC
  apply List.map_congr_left
  intro k _
  unfold rowC
  by_cases hk : k < n
  · obtain ⟨h1, h2⟩ := h k hk
    rw [h1, h2]
  · rw [if_neg fun g => hk g.1, if_neg fun g => hk g.1]
theorem rowsC_len (p : Nat → Nat) (R : List (List Int)) (n : Nat) : (rowsC p R n).length = 120 := by simp [rowsC]
theorem GF.setDone (h : GF L j jc σ q H p c) (l : List Int) : GF L j jc σ { q with done := l } (H.set (p 1) (.rw ty_int (encInt.row l) L.length)) p c := by
  refine h.upd (i := 1) rfl fun k x hk => ?_
  by_cases e : k = 1
  · subst e; rw [up_eq]; exact hk
  · rw [up_ne _ _ e, ← hk]
    unfold GB
    split <;> first | rfl | exact absurd rfl e
theorem GF.setFin (h : GF L j jc σ q H p c) (l : List Int) : GF L j jc σ { q with fin := l } (H.set (p 3) (.rw ty_int (encInt.row l) (c 3 * 1))) p c := by
  refine h.upd (i := 3) rfl fun k x hk => ?_
  by_cases e : k = 3
  · subst e; rw [up_eq]; exact hk
  · rw [up_ne _ _ e, ← hk]
    unfold GB
    split <;> first | rfl | exact absurd rfl e
theorem GF.setT (h : GF L j jc σ q H p c) (t : Nat) : GF L j jc σ { q with t := t } (H.set (p 0) (.rw ty_impl_machine [.sl j 0 L.length jc, .sl (p 1) 0 L.length L.length, .i .i64 t] 3)) p c := by
  refine h.upd (i := 0) rfl fun k x hk => ?_
  by_cases e : k = 0
  · subst e; rw [up_eq]; exact hk
  · rw [up_ne _ _ e, ← hk]
    unfold GB
    split <;> first | rfl | exact absurd rfl e
theorem GF.setCur (h : GF L j jc σ q H p c) (hn : q.cur ≠ []) (l : List Int) (hl : l ≠ []) : GF L j jc σ { q with cur := l } (H.set (p 5) (.rw ty_int (encInt.row l) (c 5 * 1))) p c := by
  refine h.upd (i := 5) (if_neg hn) fun k x hk => ?_
  by_cases e : k = 5
  · subst e; rw [up_eq]; simpa [GB, hl] using hk
  · rw [up_ne _ _ e, ← hk]
    unfold GB
    split <;> first | rfl | exact absurd rfl e
theorem GF.noCur (h : GF L j jc σ q H p c) : GF L j jc σ { q with cur := [] } H p c := by
  refine ⟨h.base, h.box, h.res, h.lay.mono fun k x hk => ?_⟩
  by_cases e : k = 5
  · subst e; simp [GB] at hk
  · rw [← hk]
    unfold GB
    split <;> first | rfl | exact absurd rfl e
theorem GF.setN (h : GF L j jc σ q H p c) (m : Nat) : GF L j jc σ { q with n := m } (H.set (p 2) (.rw ty_sl_int (rowsC p q.R m) 120)) p c := by
  refine h.upd (i := 2) rfl fun k x hk => ?_
  by_cases e : k = 2
  · subst e; rw [up_eq]; exact hk
  · rw [up_ne _ _ e, ← hk]
    unfold GB
    split <;> first | rfl | exact absurd rfl e
theorem GB_cur {l : List Int} (hl : l ≠ []) (n cap : Nat) : ∀ k x, GB L j jc { q with cur := l } (up p 5 n) (up c 5 cap) k = some x → up (GB L j jc q p c) 5 (some (.rw ty_int (encInt.row l) (cap * 1))) k = some x := fun k x hk => by
  by_cases e : k = 5
  · subst e; rw [up_eq]
    simpa [GB, hl, up_eq] using hk
  · rw [up_ne _ _ e, ← hk]
    match k, e with
    | 0, _ | 1, _ | 3, _ | 4, _ => rfl
    | 2, _ =>
      have : rowsC (up p 5 n) q.R q.n = rowsC p q.R q.n := rowsC_congr fun k _ => ⟨up_ne _ _ (by omega), rfl⟩
      simp only [GB, this]
    | k + 6, e => simp only [GB, up_ne _ _ e]
theorem GF.cur0 (h : GF L j jc σ q H p c) (hq : q.cur = []) (l : List Int) (hl : l ≠ []) (τ : List AB) (cap : Nat) : GF L j jc σ { q with cur := l } ((H ++ τ) ++ [.rw ty_int (encInt.row l) (cap * 1)]) (up p 5 (H.length + τ.length)) (up c 5 cap) :=
  h.born (i := 5) (if_pos hq) τ _ rfl (GB_cur hl _ _)
theorem GF.cur1 (h : GF L j jc σ q H p c) (hq : q.cur ≠ []) (l : List Int) (hl : l ≠ []) (τ : List AB) (cap : Nat) : GF L j jc σ { q with cur := l } ((H ++ τ).set (p 5) .dead ++ [.rw ty_int (encInt.row l) (cap * 1)]) (up p 5 (H.length + τ.length)) (up c 5 cap) :=
  h.grow (i := 5) (if_neg hq) τ _ rfl (GB_cur hl _ _)
theorem gRw_old {R : List (List Int)} {k : Nat} (h : k < R.length) (r : List Int) : gRw (R ++ [r]) k = gRw R k := by
  unfold gRw
  rw [List.getD_eq_getElem?_getD, List.getElem?_append_left h, List.getD_eq_getElem?_getD]
theorem gRw_new (R : List (List Int)) (r : List Int) : gRw (R ++ [r]) R.length = r := by simp [gRw, List.getD_eq_getElem?_getD]
theorem GF.row (h : GF L j jc σ q H p c) (hn : q.n ≤ q.R.length) (r : List Int) (hr : r ≠ []) (τ : List AB) (cap : Nat) : GF L j jc σ { q with R := q.R ++ [r] } ((H ++ τ) ++ [.rw ty_int (encInt.row r) (cap * 1)]) (up p (q.R.length + 6) (H.length + τ.length)) (up c (q.R.length + 6) cap) := by
  refine h.born (i := q.R.length + 6) (if_neg fun g => absurd g.1 (Nat.lt_irrefl _)) τ _ rfl fun k x hk => ?_
  by_cases e : k = q.R.length + 6
  · subst e; rw [up_eq]
    simpa [GB, gRw_new, hr, up_eq] using hk
  · rw [up_ne _ _ e, ← hk]
    match k, e with
    | 0, e | 1, e | 3, e | 4, e | 5, e =>
      have e1 : up p (q.R.length + 6) (H.length + τ.length) 1 = p 1 := up_ne _ _ (by omega)
      have e2 : up p (q.R.length + 6) (H.length + τ.length) 2 = p 2 := up_ne _ _ (by omega)
      have e3 : up p (q.R.length + 6) (H.length + τ.length) 3 = p 3 := up_ne _ _ (by omega)
      have e4 : up c (q.R.length + 6) cap 3 = c 3 := up_ne _ _ (by omega)
      have e5 : up c (q.R.length + 6) cap 5 = c 5 := up_ne _ _ (by omega)
      simp only [GB, e1, e2, e3, e4, e5]
    | 2, _ =>
      have : rowsC (up p (q.R.length + 6) (H.length + τ.length)) (q.R ++ [r]) q.n = rowsC p q.R q.n := rowsC_congr fun k hk => ⟨up_ne _ _ (by omega), gRw_old (by omega) r⟩
      simp only [GB, this]
    | k + 6, e =>
      have hk : k ≠ q.R.length := fun g => e (by rw [g])
      by_cases h1 : k < q.R.length
      · have h2 : k < (q.R ++ [r]).length := by rw [List.length_append]; omega
        simp only [GB, h1, h2, true_and, up_ne _ _ e, gRw_old h1]
      · have h2 : ¬ k < (q.R ++ [r]).length := by rw [List.length_append, List.length_cons, List.length_nil]; omega
        simp only [GB, h1, h2, false_and, if_false]
theorem GF.row0 (h : GF L j jc σ q H p c) (hn : q.n ≤ q.R.length) : GF L j jc σ { q with R := q.R ++ [[]] } H p c := by
  refine ⟨h.base, h.box, h.res, h.lay.mono fun k x hk => ?_⟩
  rw [← hk]
  match k with
  | 0 | 1 | 3 | 4 | 5 => rfl
  | 2 =>
    have : rowsC p (q.R ++ [[]]) q.n = rowsC p q.R q.n := rowsC_congr fun k hk => ⟨rfl, gRw_old (by omega) []⟩
    simp only [GB, this]
  | k + 6 =>
    by_cases h1 : k < q.R.length
    · have h2 : k < (q.R ++ [[]]).length := by rw [List.length_append]; omega
      simp only [GB, h1, h2, true_and, gRw_old h1]
    · by_cases h3 : k = q.R.length
      · subst h3
        simp only [GB, gRw_new, h1, ne_eq, not_true_eq_false, and_false, false_and, if_false]
      · have h2 : ¬ k < (q.R ++ [[]]).length := by rw [List.length_append, List.length_cons, List.length_nil]; omega
        simp only [GB, h1, h2, false_and, if_false]
theorem GF.sort (h : GF L j jc σ q H p c) (hl : L.length ≤ 1000000) (hj : cellsOf σ j = some (encJob.row L)) (hn : q.cur ≠ []) : SortE (fun W => H.set (p 5) (.rw ty_int (encInt.row W) (c 5 * 1))) (p 5) (c 5 * 1) n_impl_RunGlobal_1 [(σ.length, 0)] (fun x y => cmpI (dOf L x) (dOf L y)) (dOf L) L.length := by
  have h5 : GB L j jc q p c 5 = some (.rw ty_int (encInt.row q.cur) (c 5 * 1)) := if_neg hn
  have hge := h.lay.ge h5
  have hlt := h.lay.lt h5
  have hjlt := cells_lt hj
  refine ⟨fun W => List.getElem?_set_self hlt, fun W W' => List.set_set .., fun W x y hx hy => ?_, fun x y _ _ => cmpI_neg⟩
  have hb := h.base.set (n := p 5) (by omega) (.rw ty_int (encInt.row W) (c 5 * 1))
  refine impl_RunGlobal_1_ hl (c := jc) ?_ (hb.cells hj) hx hy ⟨rfl, rfl⟩
  refine cells_rwG (ty := ty_sl_impl_Job) (r := 1) ?_
  rw [List.getElem?_set_ne (by omega)]; exact h.box
end
end Go.Proofs.Ytmphblbpofnpaaa
