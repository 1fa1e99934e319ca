import Derived.Test.YtmphblbpofnpaaaAbsY
import Derived.Test.YtmphblbpofnpaaaSS
import Derived.Test.YtmphblbpofnpaaaS3
import Derived.Test.YtmphblbpofnpaaaM47
import Derived.Test.YtmphblbpofnpaaaS14
namespace Go.Proofs.Ytmphblbpofnpaaa
open Go.Abs
set_option linter.unusedSimpArgs false
set_option linter.unusedVariables false
set_option maxRecDepth 20000
def up {α : Type} (f : Nat → α) (i : Nat) (a : α) : Nat → α := fun j => if j = i then a else f j
theorem up_eq {α : Type} (f : Nat → α) (i : Nat) (a : α) : up f i a i = a := if_pos rfl
theorem up_ne {α : Type} (f : Nat → α) {i j : Nat} (a : α) (h : j ≠ i) : up f i a j = f j := if_neg h
def Lay (N : Nat) (H : List AB) (p : Nat → Nat) (B : Nat → Option AB) : Prop :=
  (∀ i b, B i = some b → N ≤ p i ∧ H[p i]? = some b) ∧ ∀ i j bi bj, B i = some bi → B j = some bj → p i = p j → i = j
section
variable {N : Nat} {H : List AB} {p : Nat → Nat} {B B' : Nat → Option AB} {i : Nat} {b : AB}
theorem Lay.at (h : Lay N H p B) (hi : B i = some b) : H[p i]? = some b := (h.1 i b hi).2
theorem Lay.ge (h : Lay N H p B) (hi : B i = some b) : N ≤ p i := (h.1 i b hi).1
theorem Lay.lt (h : Lay N H p B) (hi : B i = some b) : p i < H.length := (List.getElem?_eq_some_iff.1 (h.at hi)).1
theorem Lay.mono (h : Lay N H p B) (hm : ∀ i b, B' i = some b → B i = some b) : Lay N H p B' :=
  ⟨fun i b hi => h.1 i b (hm i b hi), fun i j bi bj hi hj => h.2 i j bi bj (hm i bi hi) (hm j bj hj)⟩
theorem Lay.low (h : Lay N H p B) {n : Nat} (hn : n < N) (b : AB) : Lay N (H.set n b) p B := by
  refine ⟨fun i bi hi => ?_, h.2⟩
  have := h.1 i bi hi
  exact ⟨this.1, by rw [List.getElem?_set_ne (by omega)]; exact this.2⟩
theorem Lay.junk (h : Lay N H p B) (τ : List AB) : Lay N (H ++ τ) p B :=
  ⟨fun i bi hi => ⟨(h.1 i bi hi).1, by rw [List.getElem?_append_left (h.lt hi)]; exact h.at hi⟩, h.2⟩
theorem Lay.set (h : Lay N H p B) (hi : B i = some b) (b' : AB) : Lay N (H.set (p i) b') p (up B i (some b')) := by
  have hlt := h.lt hi
  have key : ∀ j bj, up B i (some b') j = some bj → ∃ bj', B j = some bj' := fun j bj hj => by
    by_cases e : j = i
    · subst e; exact ⟨b, hi⟩
    · rw [up_ne _ _ e] at hj; exact ⟨bj, hj⟩
  refine ⟨fun j bj hj => ?_, fun j k bj bk hj hk => ?_⟩
  · by_cases e : j = i
    · subst e
      rw [up_eq] at hj
      cases hj
      exact ⟨h.ge hi, List.getElem?_set_self hlt⟩
    · rw [up_ne _ _ e] at hj
      refine ⟨h.ge hj, ?_⟩
      rw [List.getElem?_set_ne (fun g => e (h.2 _ _ _ _ hj hi g.symm))]
      exact h.at hj
  · obtain ⟨bj', hj'⟩ := key j bj hj
    obtain ⟨bk', hk'⟩ := key k bk hk
    exact h.2 j k _ _ hj' hk'
theorem Lay.dead (h : Lay N H p B) (hi : B i = some b) (b' : AB) : Lay N (H.set (p i) b') p (up B i none) := by
  refine (h.set hi b').mono fun j bj hj => ?_
  by_cases e : j = i
  · subst e; rw [up_eq] at hj; cases hj
  · rw [up_ne _ _ e] at hj ⊢; exact hj
theorem Lay.put (h : Lay N H p B) (hN : N ≤ H.length) (i : Nat) (b : AB) (hi : B i = none) {n : Nat} (hn : n = H.length) : Lay N (H ++ [b]) (up p i n) (up B i (some b)) := by
  subst hn
  refine ⟨fun j bj hj => ?_, fun j k bj bk hj hk hp => ?_⟩
  · by_cases e : j = i
    · subst e
      rw [up_eq] at hj
      cases hj
      rw [up_eq]
      exact ⟨hN, by simp⟩
    · rw [up_ne _ _ e] at hj ⊢
      exact ⟨h.ge hj, by rw [List.getElem?_append_left (h.lt hj)]; exact h.at hj⟩
  · by_cases e : j = i
    · subst e
      by_cases e2 : k = j
      · exact e2.symm
      · rw [up_ne _ _ e2] at hk hp
        rw [up_eq] at hp
        have := h.lt hk; omega
    · rw [up_ne _ _ e] at hj hp
      by_cases e2 : k = i
      · subst e2
        rw [up_eq] at hp
        have := h.lt hj; omega
      · rw [up_ne _ _ e2] at hk hp
        exact h.2 _ _ _ _ hj hk hp
end
section
variable {N : Nat} {H : List AB} {p : Nat → Nat} {B B' : Nat → Option AB} {i : Nat} {b : AB}
theorem Lay.upd (h : Lay N H p B) (hi : B i = some b) (b' : AB) (hB : ∀ j x, B' j = some x → up B i (some b') j = some x) : Lay N (H.set (p i) b') p B' := (h.set hi b').mono hB
theorem Lay.grow (h : Lay N H p B) (hN : N ≤ H.length) (hi : B i = some b) (τ : List AB) (new : AB) {n : Nat} (hn : n = H.length + τ.length) (hB : ∀ j x, B' j = some x → up B i (some new) j = some x) : Lay N ((H ++ τ).set (p i) .dead ++ [new]) (up p i n) B' := by
  have h1 := ((h.junk τ).dead hi .dead).put (by simp only [List.length_append, List.length_set]; omega) i new (up_eq _ _ _) (n := n) (by simp [hn])
  refine h1.mono fun j x hj => ?_
  have := hB j x hj
  by_cases e : j = i
  · subst e; rw [up_eq] at this ⊢; exact this
  · rw [up_ne _ _ e] at this ⊢; rw [up_ne _ _ e]; exact this
theorem Lay.born (h : Lay N H p B) (hN : N ≤ H.length) (hi : B i = none) (τ : List AB) (new : AB) {n : Nat} (hn : n = H.length + τ.length) (hB : ∀ j x, B' j = some x → up B i (some new) j = some x) : Lay N ((H ++ τ) ++ [new]) (up p i n) B' :=
  ((h.junk τ).put (by simp only [List.length_append]; omega) i new hi (by simpa using hn)).mono hB
end
def Base (σ H : List AB) (k : Nat) : Prop := (∀ m, m < σ.length → H[m]? = σ[m]?) ∧ σ.length + k ≤ H.length
section
variable {σ H : List AB} {k : Nat}
theorem Base.app (h : Base σ H k) (τ : List AB) : Base σ (H ++ τ) k := ⟨fun m hm => by rw [List.getElem?_append_left (by have := h.2; omega)]; exact h.1 m hm, by rw [List.length_append]; have := h.2; omega⟩
theorem Base.set (h : Base σ H k) {n : Nat} (hn : σ.length ≤ n) (b : AB) : Base σ (H.set n b) k := ⟨fun m hm => by rw [List.getElem?_set_ne (by omega)]; exact h.1 m hm, by rw [List.length_set]; exact h.2⟩
theorem Base.cells (h : Base σ H k) {n : Nat} {cs : List AV} (hc : cellsOf σ n = some cs) : cellsOf H n = some cs := by
  have hn := cells_lt hc
  unfold cellsOf at hc ⊢
  rw [h.1 n hn]; exact hc
theorem Base.rd (h : Base σ H k) {α : Type} {E : Enc α} {v : AV} {L : List α} (hr : Rd E σ v L) : Rd E H v L := by
  have hlen := h.2
  rcases hr with ⟨n, o, cap, cs, h1, h2, h3, h4⟩ | ⟨h1, h2, h3⟩
  · exact .inl ⟨n, o, cap, cs, h1, by omega, h.cells h3, h4⟩
  · exact .inr ⟨h1, h2, by omega⟩
end
theorem base_split' {σ H : List AB} {k : Nat} (hb : Base σ H k) : σ ++ H.drop σ.length = H := by
  apply List.ext_getElem?
  intro i
  by_cases h : i < σ.length
  · rw [List.getElem?_append_left h, hb.1 i h]
  · rw [List.getElem?_append_right (by omega), List.getElem?_drop]; congr 1; omega
end Go.Proofs.Ytmphblbpofnpaaa
/- Contracts: global earliest deadline first, of the program: the comparison; what a run holds in memory. -/
namespace Go.Proofs.Ytmphblbpofnpaaa
open Go.Abs Go.Ds
set_option linter.unusedSimpArgs false
set_option linter.unusedVariables false
set_option maxRecDepth 20000
set_option maxHeartbeats 2000000
theorem impl_isCoresG_ (m : Int) {σ : List AB} {K : AV → List AB → Prop} (hk : K (.b (decide (1 ≤ m ∧ m ≤ 5))) σ) : CallWp Try.prog n_impl_isCores [.i .i64 m] σ K := by
  refine call_impl_isCores (by simp) ?_
  simp only [c_impl_isCores, not_true_eq_false, not_false_eq_true, decide_true, decide_false, Bool.not_true, Bool.not_false, false_implies, true_implies, and_true, true_and, Bool.false_eq_true, Bool.true_eq_false, implies_true, Bool.not_not, Classical.not_not, go_sem, Int.reduceToNat, List.take_nil, Nat.zero_mul, Nat.reduceEqDiff, Nat.reduceAdd, Nat.reduceLT, Nat.reduceLeDiff, Nat.reduceMul, ↓reduceIte, reduceCtorEq]
  refine impl_in_ _ _ _ ?_
  simp only [not_true_eq_false, not_false_eq_true, decide_true, decide_false, Bool.not_true, Bool.not_false, false_implies, true_implies, and_true, true_and, Bool.false_eq_true, Bool.true_eq_false, implies_true, Bool.not_not, Classical.not_not, go_sem, Int.reduceToNat, List.take_nil, Nat.zero_mul, Nat.reduceEqDiff, Nat.reduceAdd, Nat.reduceLT, Nat.reduceLeDiff, Nat.reduceMul, ↓reduceIte, reduceCtorEq]
  exact Fin.plain hk
def cmpI (x y : Int) : Int := if x < y then -1 else if y < x then 1 else 0
theorem cmpI_neg {x y : Int} : cmpI x y < 0 ↔ x < y := by
  unfold cmpI
  split
  · exact ⟨fun _ => by assumption, fun _ => by decide⟩
  · split
    · exact ⟨fun h => absurd h (by decide), fun h => by omega⟩
    · exact ⟨fun h => absurd h (by decide), fun h => by omega⟩
theorem cmp_isNaN_ (x : Int) {σ : List AB} {K : AV → List AB → Prop} (hk : K (.b false) σ) : CallWp Try.prog n_cmp_isNaN_int [.i .i64 x] σ K := by
  refine call_cmp_isNaN_int (by simp) ?_
  simp only [c_cmp_isNaN_int, not_true_eq_false, not_false_eq_true, decide_true, decide_false, Bool.not_true, Bool.not_false, false_implies, true_implies, and_true, true_and, Bool.false_eq_true, Bool.true_eq_false, implies_true, Bool.not_not, Classical.not_not, go_sem, Int.reduceToNat, List.take_nil, Nat.zero_mul, Nat.reduceEqDiff, Nat.reduceAdd, Nat.reduceLT, Nat.reduceLeDiff, Nat.reduceMul, ↓reduceIte, reduceCtorEq]
  first
    | exact Fin.plain hk
    | (refine ⟨fun h => ?_, fun h => ?_⟩ <;> exact Fin.plain hk)
theorem cmp_Compare_ (x y : Int) {σ : List AB} {K : AV → List AB → Prop} (hk : K (.i .i64 (cmpI x y)) σ) : CallWp Try.prog n_cmp_Compare_int [.i .i64 x, .i .i64 y] σ K := by
  refine call_cmp_Compare_int (by simp) ?_
  simp only [c_cmp_Compare_int, not_true_eq_false, not_false_eq_true, decide_true, decide_false, Bool.not_true, Bool.not_false, false_implies, true_implies, and_true, true_and, Bool.false_eq_true, Bool.true_eq_false, implies_true, Bool.not_not, Classical.not_not, go_sem, Int.reduceToNat, List.take_nil, Nat.zero_mul, Nat.reduceEqDiff, Nat.reduceAdd, Nat.reduceLT, Nat.reduceLeDiff, Nat.reduceMul, ↓reduceIte, reduceCtorEq]
  refine cmp_isNaN_ x ?_
  simp only [not_true_eq_false, not_false_eq_true, decide_true, decide_false, Bool.not_true, Bool.not_false, false_implies, true_implies, and_true, true_and, Bool.false_eq_true, Bool.true_eq_false, implies_true, Bool.not_not, Classical.not_not, go_sem, Int.reduceToNat, List.take_nil, Nat.zero_mul, Nat.reduceEqDiff, Nat.reduceAdd, Nat.reduceLT, Nat.reduceLeDiff, Nat.reduceMul, ↓reduceIte, reduceCtorEq]
  refine cmp_isNaN_ y ?_
  simp only [not_true_eq_false, not_false_eq_true, decide_true, decide_false, Bool.not_true, Bool.not_false, false_implies, true_implies, and_true, true_and, Bool.false_eq_true, Bool.true_eq_false, implies_true, Bool.not_not, Classical.not_not, go_sem, Int.reduceToNat, List.take_nil, Nat.zero_mul, Nat.reduceEqDiff, Nat.reduceAdd, Nat.reduceLT, Nat.reduceLeDiff, Nat.reduceMul, ↓reduceIte, reduceCtorEq]
  refine ⟨fun h => Fin.plain ?_, fun h => ⟨fun h2 => Fin.plain ?_, fun h2 => Fin.plain ?_⟩⟩
  · rw [cmpI, if_pos h] at hk; exact hk
  · rw [cmpI, if_neg h, if_pos h2] at hk; exact hk
  · rw [cmpI, if_neg h, if_neg h2] at hk; exact hk
theorem impl_RunGlobal_1_ {L : List Job} {σ : List AB} {q j c : Nat} {x y : Int} (hl : L.length ≤ 1000000) (hq : cellsOf σ q = some [.sl j 0 L.length c]) (hj : cellsOf σ j = some (encJob.row L)) (hx : 0 ≤ x ∧ x < L.length) (hy : 0 ≤ y ∧ y < L.length) {K : AV → List AB → Prop} (hk : K (.i .i64 (cmpI (dOf L x) (dOf L y))) σ) :
    CallWp Try.prog n_impl_RunGlobal_1 [.i .i64 x, .i .i64 y, .p q 0] σ K := by
  obtain ⟨a, rfl⟩ := Int.eq_ofNat_of_zero_le hx.1
  obtain ⟨b, rfl⟩ := Int.eq_ofNat_of_zero_le hy.1
  have ha : a < L.length := by omega
  have hb : b < L.length := by omega
  have ea : dOf L (a : Int) = L[a].D := by simp [dOf, List.getD_eq_getElem?_getD, ha]
  have eb : dOf L (b : Int) = L[b].D := by simp [dOf, List.getD_eq_getElem?_getD, hb]
  rw [ea, eb] at hk
  refine call_impl_RunGlobal_1 (by simp) ?_
  simp only [c_impl_RunGlobal_1, onC_of hq, onC_of hj, rdJ2 ha, rdJ2 hb, lenJ, not_true_eq_false, not_false_eq_true, decide_true, decide_false, Bool.not_true, Bool.not_false, false_implies, true_implies, and_true, true_and, Bool.false_eq_true, Bool.true_eq_false, implies_true, Bool.not_not, Classical.not_not, go_sem, Int.reduceToNat, List.take_nil, Nat.zero_mul, Nat.reduceEqDiff, Nat.reduceAdd, Nat.reduceLT, Nat.reduceLeDiff, Nat.reduceMul, ↓reduceIte, reduceCtorEq]
  refine ⟨ha, by omega, hb, by omega, onCall.by (cmp_Compare_ _ _ ⟨rfl, rfl⟩) ?_⟩
  simp only [not_true_eq_false, not_false_eq_true, decide_true, decide_false, Bool.not_true, Bool.not_false, false_implies, true_implies, and_true, true_and, Bool.false_eq_true, Bool.true_eq_false, implies_true, Bool.not_not, Classical.not_not, go_sem, Int.reduceToNat, List.take_nil, Nat.zero_mul, Nat.reduceEqDiff, Nat.reduceAdd, Nat.reduceLT, Nat.reduceLeDiff, Nat.reduceMul, ↓reduceIte, reduceCtorEq]
  exact Fin.plain hk
def RdG (σ : List AB) (v : AV) (R : List (List Int)) : Prop :=
  (∃ n o cap cs, v = .sl n o R.length cap ∧ cellsOf σ n = some cs ∧ o + R.length ≤ cs.length ∧ ∀ k (h : k < R.length), Rd encInt σ (rd cs (o + k)) R[k]) ∨ (v = .sn ∧ R = [] ∧ 0 < σ.length)
theorem RdG.app {σ τ : List AB} {v : AV} {R : List (List Int)} (h : RdG σ v R) : RdG (σ ++ τ) v R := by
  rcases h with ⟨n, o, cap, cs, h1, h2, h3, h4⟩ | ⟨h1, h2, h3⟩
  · exact .inl ⟨n, o, cap, cs, h1, cells_old h2 τ, h3, fun k hk => (h4 k hk).app⟩
  · exact .inr ⟨h1, h2, by rw [List.length_append]; omega⟩
theorem RdG.data {σ : List AB} {v : AV} {R : List (List Int)} (h : RdG σ v R) : v.data = true := by
  rcases h with ⟨n, o, cap, cs, rfl, _⟩ | ⟨rfl, _⟩ <;> rfl
def GlobAns (σ : List AB) (x : AV) (R : List (List Int)) (F : List Int) : Prop := ∃ v1 v2, x = .agg [v1, v2] ∧ RdG σ v1 R ∧ Rd encInt σ v2 F
theorem GlobAns.app {σ τ : List AB} {x : AV} {R : List (List Int)} {F : List Int} (h : GlobAns σ x R F) : GlobAns (σ ++ τ) x R F := by
  obtain ⟨v1, v2, h0, h1, h2⟩ := h
  exact ⟨v1, v2, h0, h1.app, h2.app⟩
def GlobAnsN (N : Nat) (σ : List AB) (x : AV) (R : List (List Int)) (F : List Int) : Prop := ∀ σ', σ'.length = σ.length → (∀ n, N ≤ n → σ'[n]? = σ[n]?) → GlobAns σ' x R F
theorem GlobAnsN.plain {N : Nat} {σ : List AB} {x : AV} {R : List (List Int)} {F : List Int} (h : GlobAnsN N σ x R F) : GlobAns σ x R F := h σ rfl fun _ _ => rfl
theorem GlobAnsN.set {N n : Nat} {σ : List AB} {x : AV} {R : List (List Int)} {F : List Int} (h : GlobAnsN N σ x R F) (hn : n < N) (B : AB) : GlobAns (σ.set n B) x R F :=
  h _ (List.length_set ..) fun m hm => by rw [List.getElem?_set_ne (by omega)]
/-- What a run holds in memory. -/
structure QG where
  t : Nat
  done : List Int
  fin : List Int
  cur : List Int
  R : List (List Int)
  n : Nat
def gRw (R : List (List Int)) (k : Nat) : List Int := R.getD k []
def rowC (p : Nat → Nat) (R : List (List Int)) (n k : Nat) : AV := if k < n ∧ gRw R k ≠ [] then .sl (p (k + 6)) 0 (gRw R k).length (gRw R k).length else .sn
def rowsC (p : Nat → Nat) (R : List (List Int)) (n : Nat) : List AV := (List.range 120).map (rowC p R n)
section
variable (L : List Job) (j jc : Nat)
def GB (q : QG) (p c : Nat → Nat) : Nat → Option AB
  | 0 => some (.rw ty_impl_machine [.sl j 0 L.length jc, .sl (p 1) 0 L.length L.length, .i .i64 q.t] 3)
  | 1 => some (.rw ty_int (encInt.row q.done) L.length)
  | 2 => some (.rw ty_sl_int (rowsC p q.R q.n) 120)
  | 3 => some (.rw ty_int (encInt.row q.fin) (c 3 * 1))
  | 4 => some (.rw ty_impl_GlobalRun [.sl (p 2) 0 120 120, .sl (p 3) 0 L.length (c 3)] 2)
  | 5 => if q.cur = [] then none else some (.rw ty_int (encInt.row q.cur) (c 5 * 1))
  | k + 6 => if k < q.R.length ∧ gRw q.R k ≠ [] then some (.rw ty_int (encInt.row (gRw q.R k)) (c (k + 6) * 1)) else none
structure GF (σ : List AB) (q : QG) (H : List AB) (p c : Nat → Nat) : Prop where
  base : Base σ H 2
  box : H[σ.length]? = some (.rw ty_sl_impl_Job [.sl j 0 L.length jc] 1)
  res : H[σ.length + 1]? = some (.rw ty_impl_GlobalRun [.sn, .sn] 2)
  lay : Lay (σ.length + 2) H p (GB L j jc q p c)
end
section
variable {L : List Job} {j jc : Nat} {σ H : List AB} {q q' : QG} {p c : Nat → Nat}
theorem GF.app (h : GF L j jc σ q H p c) (τ : List AB) : GF L j jc σ q (H ++ τ) p c :=
  ⟨h.base.app τ, at_old h.box τ, at_old h.res τ, h.lay.junk τ⟩
theorem GF.upd (h : GF L j jc σ q H p c) {i : Nat} {b b' : AB} (hi : GB L j jc q p c i = some b) (hB : ∀ k x, GB L j jc q' p c k = some x → up (GB L j jc q p c) i (some b') k = some x) : GF L j jc σ q' (H.set (p i) b') p c := by
  have hg := h.lay.ge hi
  exact ⟨h.base.set (by omega) _, by rw [List.getElem?_set_ne (by omega)]; exact h.box, by rw [List.getElem?_set_ne (by omega)]; exact h.res, h.lay.upd hi b' hB⟩
theorem GF.grow (h : GF L j jc σ q H p c) {i : Nat} {b : AB} (hi : GB L j jc q p c i = some b) (τ : List AB) (new : AB) {n : Nat} {c' : Nat → Nat} (hn : n = H.length + τ.length) (hB : ∀ k x, GB L j jc q' (up p i n) c' k = some x → up (GB L j jc q p c) i (some new) k = some x) : GF L j jc σ q' ((H ++ τ).set (p i) .dead ++ [new]) (up p i n) c' := by
  have hg := h.lay.ge hi
  have hlen := h.base.2
  refine ⟨((h.base.app τ).set (by omega) _).app _, at_old ?_ _, at_old ?_ _, h.lay.grow hlen hi τ new hn hB⟩
  · rw [List.getElem?_set_ne (by omega)]; exact at_old h.box τ
  · rw [List.getElem?_set_ne (by omega)]; exact at_old h.res τ
theorem GF.born (h : GF L j jc σ q H p c) {i : Nat} (hi : GB L j jc q p c i = none) (τ : List AB) (new : AB) {n : Nat} {c' : Nat → Nat} (hn : n = H.length + τ.length) (hB : ∀ k x, GB L j jc q' (up p i n) c' k = some x → up (GB L j jc q p c) i (some new) k = some x) : GF L j jc σ q' ((H ++ τ) ++ [new]) (up p i n) c' :=
  ⟨(h.base.app τ).app _, at_old (at_old h.box τ) _, at_old (at_old h.res τ) _, h.lay.born h.base.2 hi τ new hn hB⟩
theorem GF.a0 (h : GF L j jc σ q H p c) : H[p 0]? = some (.rw ty_impl_machine [.sl j 0 L.length jc, .sl (p 1) 0 L.length L.length, .i .i64 q.t] 3) := h.lay.at (i := 0) rfl
theorem GF.a1 (h : GF L j jc σ q H p c) : H[p 1]? = some (.rw ty_int (encInt.row q.done) L.length) := h.lay.at (i := 1) rfl
theorem GF.a2 (h : GF L j jc σ q H p c) : H[p 2]? = some (.rw ty_sl_int (rowsC p q.R q.n) 120) := h.lay.at (i := 2) rfl
theorem GF.a3 (h : GF L j jc σ q H p c) : H[p 3]? = some (.rw ty_int (encInt.row q.fin) (c 3 * 1)) := h.lay.at (i := 3) rfl
theorem GF.a4 (h : GF L j jc σ q H p c) : H[p 4]? = some (.rw ty_impl_GlobalRun [.sl (p 2) 0 120 120, .sl (p 3) 0 L.length (c 3)] 2) := h.lay.at (i := 4) rfl
theorem GF.a5 (h : GF L j jc σ q H p c) (hn : q.cur ≠ []) : H[p 5]? = some (.rw ty_int (encInt.row q.cur) (c 5 * 1)) := h.lay.at (i := 5) (if_neg hn)
theorem cells_rwG {H : List AB} {n : Nat} {ty : TypeId} {cs : List AV} {r : Nat} (h : H[n]? = some (.rw ty cs r)) : cellsOf H n = some cs := by simp only [cellsOf, h]
theorem GF.mach (h : GF L j jc σ q H p c) (hj : cellsOf σ j = some (encJob.row L)) (hd : q.done.length = L.length) : Mach H (p 0) L q.done q.t :=
  ⟨⟨j, jc, p 1, L.length, cells_rwG h.a0, h.base.cells hj, cells_rwG h.a1⟩, hd⟩
theorem rowsC_congr {p p' : Nat → Nat} {R R' : List (List Int)} {n : Nat} (h : ∀ k, k < n → p' (k + 6) = p (k + 6) ∧ gRw R' k = gRw R k) : rowsC p' R' n = rowsC p R n := by
  unfold rowsC
  apply List.map_congr_left
  intro k _
  unfold rowC
  by_cases hk : k < n
  · obtain ⟨h1, h2⟩ := h k hk
    rw [h1, h2]
  · rw [if_neg fun g => hk g.1, if_neg fun g => hk g.1]
theorem rowsC_len (p : Nat → Nat) (R : List (List Int)) (n : Nat) : (rowsC p R n).length = 120 := by simp [rowsC]
theorem GF.setDone (h : GF L j jc σ q H p c) (l : List Int) : GF L j jc σ { q with done := l } (H.set (p 1) (.rw ty_int (encInt.row l) L.length)) p c := by
  refine h.upd (i := 1) rfl fun k x hk => ?_
  by_cases e : k = 1
  · subst e; rw [up_eq]; exact hk
  · rw [up_ne _ _ e, ← hk]
    unfold GB
    split <;> first | rfl | exact absurd rfl e
theorem GF.setFin (h : GF L j jc σ q H p c) (l : List Int) : GF L j jc σ { q with fin := l } (H.set (p 3) (.rw ty_int (encInt.row l) (c 3 * 1))) p c := by
  refine h.upd (i := 3) rfl fun k x hk => ?_
  by_cases e : k = 3
  · subst e; rw [up_eq]; exact hk
  · rw [up_ne _ _ e, ← hk]
    unfold GB
    split <;> first | rfl | exact absurd rfl e
theorem GF.setT (h : GF L j jc σ q H p c) (t : Nat) : GF L j jc σ { q with t := t } (H.set (p 0) (.rw ty_impl_machine [.sl j 0 L.length jc, .sl (p 1) 0 L.length L.length, .i .i64 t] 3)) p c := by
  refine h.upd (i := 0) rfl fun k x hk => ?_
  by_cases e : k = 0
  · subst e; rw [up_eq]; exact hk
  · rw [up_ne _ _ e, ← hk]
    unfold GB
    split <;> first | rfl | exact absurd rfl e
theorem GF.setCur (h : GF L j jc σ q H p c) (hn : q.cur ≠ []) (l : List Int) (hl : l ≠ []) : GF L j jc σ { q with cur := l } (H.set (p 5) (.rw ty_int (encInt.row l) (c 5 * 1))) p c := by
  refine h.upd (i := 5) (if_neg hn) fun k x hk => ?_
  by_cases e : k = 5
  · subst e; rw [up_eq]; simpa [GB, hl] using hk
  · rw [up_ne _ _ e, ← hk]
    unfold GB
    split <;> first | rfl | exact absurd rfl e
theorem GF.noCur (h : GF L j jc σ q H p c) : GF L j jc σ { q with cur := [] } H p c := by
  refine ⟨h.base, h.box, h.res, h.lay.mono fun k x hk => ?_⟩
  by_cases e : k = 5
  · subst e; simp [GB] at hk
  · rw [← hk]
    unfold GB
    split <;> first | rfl | exact absurd rfl e
theorem GF.setN (h : GF L j jc σ q H p c) (m : Nat) : GF L j jc σ { q with n := m } (H.set (p 2) (.rw ty_sl_int (rowsC p q.R m) 120)) p c := by
  refine h.upd (i := 2) rfl fun k x hk => ?_
  by_cases e : k = 2
  · subst e; rw [up_eq]; exact hk
  · rw [up_ne _ _ e, ← hk]
    unfold GB
    split <;> first | rfl | exact absurd rfl e
theorem GB_cur {l : List Int} (hl : l ≠ []) (n cap : Nat) : ∀ k x, GB L j jc { q with cur := l } (up p 5 n) (up c 5 cap) k = some x → up (GB L j jc q p c) 5 (some (.rw ty_int (encInt.row l) (cap * 1))) k = some x := fun k x hk => by
  by_cases e : k = 5
  · subst e; rw [up_eq]
    simpa [GB, hl, up_eq] using hk
  · rw [up_ne _ _ e, ← hk]
    match k, e with
    | 0, _ | 1, _ | 3, _ | 4, _ => rfl
    | 2, _ =>
      have : rowsC (up p 5 n) q.R q.n = rowsC p q.R q.n := rowsC_congr fun k _ => ⟨up_ne _ _ (by omega), rfl⟩
      simp only [GB, this]
    | k + 6, e => simp only [GB, up_ne _ _ e]
theorem GF.cur0 (h : GF L j jc σ q H p c) (hq : q.cur = []) (l : List Int) (hl : l ≠ []) (τ : List AB) (cap : Nat) : GF L j jc σ { q with cur := l } ((H ++ τ) ++ [.rw ty_int (encInt.row l) (cap * 1)]) (up p 5 (H.length + τ.length)) (up c 5 cap) :=
  h.born (i := 5) (if_pos hq) τ _ rfl (GB_cur hl _ _)
theorem GF.cur1 (h : GF L j jc σ q H p c) (hq : q.cur ≠ []) (l : List Int) (hl : l ≠ []) (τ : List AB) (cap : Nat) : GF L j jc σ { q with cur := l } ((H ++ τ).set (p 5) .dead ++ [.rw ty_int (encInt.row l) (cap * 1)]) (up p 5 (H.length + τ.length)) (up c 5 cap) :=
  h.grow (i := 5) (if_neg hq) τ _ rfl (GB_cur hl _ _)
theorem gRw_old {R : List (List Int)} {k : Nat} (h : k < R.length) (r : List Int) : gRw (R ++ [r]) k = gRw R k := by
  unfold gRw
  rw [List.getD_eq_getElem?_getD, List.getElem?_append_left h, List.getD_eq_getElem?_getD]
theorem gRw_new (R : List (List Int)) (r : List Int) : gRw (R ++ [r]) R.length = r := by simp [gRw, List.getD_eq_getElem?_getD]
theorem GF.row (h : GF L j jc σ q H p c) (hn : q.n ≤ q.R.length) (r : List Int) (hr : r ≠ []) (τ : List AB) (cap : Nat) : GF L j jc σ { q with R := q.R ++ [r] } ((H ++ τ) ++ [.rw ty_int (encInt.row r) (cap * 1)]) (up p (q.R.length + 6) (H.length + τ.length)) (up c (q.R.length + 6) cap) := by
  refine h.born (i := q.R.length + 6) (if_neg fun g => absurd g.1 (Nat.lt_irrefl _)) τ _ rfl fun k x hk => ?_
  by_cases e : k = q.R.length + 6
  · subst e; rw [up_eq]
    simpa [GB, gRw_new, hr, up_eq] using hk
  · rw [up_ne _ _ e, ← hk]
    match k, e with
    | 0, e | 1, e | 3, e | 4, e | 5, e =>
      have e1 : up p (q.R.length + 6) (H.length + τ.length) 1 = p 1 := up_ne _ _ (by omega)
      have e2 : up p (q.R.length + 6) (H.length + τ.length) 2 = p 2 := up_ne _ _ (by omega)
      have e3 : up p (q.R.length + 6) (H.length + τ.length) 3 = p 3 := up_ne _ _ (by omega)
      have e4 : up c (q.R.length + 6) cap 3 = c 3 := up_ne _ _ (by omega)
      have e5 : up c (q.R.length + 6) cap 5 = c 5 := up_ne _ _ (by omega)
      simp only [GB, e1, e2, e3, e4, e5]
    | 2, _ =>
      have : rowsC (up p (q.R.length + 6) (H.length + τ.length)) (q.R ++ [r]) q.n = rowsC p q.R q.n := rowsC_congr fun k hk => ⟨up_ne _ _ (by omega), gRw_old (by omega) r⟩
      simp only [GB, this]
    | k + 6, e =>
      have hk : k ≠ q.R.length := fun g => e (by rw [g])
      by_cases h1 : k < q.R.length
      · have h2 : k < (q.R ++ [r]).length := by rw [List.length_append]; omega
        simp only [GB, h1, h2, true_and, up_ne _ _ e, gRw_old h1]
      · have h2 : ¬ k < (q.R ++ [r]).length := by rw [List.length_append, List.length_cons, List.length_nil]; omega
        simp only [GB, h1, h2, false_and, if_false]
theorem GF.row0 (h : GF L j jc σ q H p c) (hn : q.n ≤ q.R.length) : GF L j jc σ { q with R := q.R ++ [[]] } H p c := by
  refine ⟨h.base, h.box, h.res, h.lay.mono fun k x hk => ?_⟩
  rw [← hk]
  match k with
  | 0 | 1 | 3 | 4 | 5 => rfl
  | 2 =>
    have : rowsC p (q.R ++ [[]]) q.n = rowsC p q.R q.n := rowsC_congr fun k hk => ⟨rfl, gRw_old (by omega) []⟩
    simp only [GB, this]
  | k + 6 =>
    by_cases h1 : k < q.R.length
    · have h2 : k < (q.R ++ [[]]).length := by rw [List.length_append]; omega
      simp only [GB, h1, h2, true_and, gRw_old h1]
    · by_cases h3 : k = q.R.length
      · subst h3
        simp only [GB, gRw_new, h1, ne_eq, not_true_eq_false, and_false, false_and, if_false]
      · have h2 : ¬ k < (q.R ++ [[]]).length := by rw [List.length_append, List.length_cons, List.length_nil]; omega
        simp only [GB, h1, h2, false_and, if_false]
theorem GF.sort (h : GF L j jc σ q H p c) (hl : L.length ≤ 1000000) (hj : cellsOf σ j = some (encJob.row L)) (hn : q.cur ≠ []) : SortE (fun W => H.set (p 5) (.rw ty_int (encInt.row W) (c 5 * 1))) (p 5) (c 5 * 1) n_impl_RunGlobal_1 [(σ.length, 0)] (fun x y => cmpI (dOf L x) (dOf L y)) (dOf L) L.length := by
  have h5 : GB L j jc q p c 5 = some (.rw ty_int (encInt.row q.cur) (c 5 * 1)) := if_neg hn
  have hge := h.lay.ge h5
  have hlt := h.lay.lt h5
  have hjlt := cells_lt hj
  refine ⟨fun W => List.getElem?_set_self hlt, fun W W' => List.set_set .., fun W x y hx hy => ?_, fun x y _ _ => cmpI_neg⟩
  have hb := h.base.set (n := p 5) (by omega) (.rw ty_int (encInt.row W) (c 5 * 1))
  refine impl_RunGlobal_1_ hl (c := jc) ?_ (hb.cells hj) hx hy ⟨rfl, rfl⟩
  refine cells_rwG (ty := ty_sl_impl_Job) (r := 1) ?_
  rw [List.getElem?_set_ne (by omega)]; exact h.box
end
end Go.Proofs.Ytmphblbpofnpaaa
/- Contracts: global earliest deadline first, of the program: the parts of a tick. -/
namespace Go.Proofs.Ytmphblbpofnpaaa
open Go.Abs Go.Ds
set_option linter.unusedSimpArgs false
set_option linter.unusedVariables false
set_option maxRecDepth 20000
set_option maxHeartbeats 4000000
theorem sortNil_ {f : Nat} {cb : List (Nat × Nat)} {σ : List AB} {K : AV → List AB → Prop} (hk : K (.tup []) σ) : CallWp Try.prog n_slices_SortStableFunc_int [.sn, .fn f [] cb] σ K := by
  refine call_slices_SortStableFunc_int (by simp) ?_
  simp only [c_slices_SortStableFunc_int, not_true_eq_false, not_false_eq_true, decide_true, decide_false, Bool.not_true, Bool.not_false, false_implies, true_implies, and_true, true_and, Bool.false_eq_true, Bool.true_eq_false, implies_true, Bool.not_not, Classical.not_not, go_sem, Int.reduceToNat, List.take_nil, Nat.zero_mul, Nat.reduceEqDiff, Nat.reduceAdd, Nat.reduceLT, Nat.reduceLeDiff, Nat.reduceMul, ↓reduceIte, reduceCtorEq]
  refine call_slices_stableCmpFunc_int (by simp) ?_
  simp only [c_slices_stableCmpFunc_int, not_true_eq_false, not_false_eq_true, decide_true, decide_false, Bool.not_true, Bool.not_false, false_implies, true_implies, and_true, true_and, Bool.false_eq_true, Bool.true_eq_false, implies_true, Bool.not_not, Classical.not_not, go_sem, Int.reduceToNat, List.take_nil, Nat.zero_mul, Nat.reduceEqDiff, Nat.reduceAdd, Nat.reduceLT, Nat.reduceLeDiff, Nat.reduceMul, ↓reduceIte, reduceCtorEq]
  refine loop_count 0 (fun i => ⟨[(0, .sn), (1, .i .i64 0), (2, .fn f [] cb), (6, .i .i64 20), (7, .i .i64 0), (8, .i .i64 20)], σ⟩) (fun _ => True) trivial (Wk.keep (by simp [look_cons])) fun i hi _ => ?_
  simp only [l2_slices_stableCmpFunc_int, not_true_eq_false, not_false_eq_true, decide_true, decide_false, Bool.not_true, Bool.not_false, false_implies, true_implies, and_true, true_and, Bool.false_eq_true, Bool.true_eq_false, implies_true, Bool.not_not, Classical.not_not, go_sem, Int.reduceToNat, List.take_nil, Nat.zero_mul, Nat.reduceEqDiff, Nat.reduceAdd, Nat.reduceLT, Nat.reduceLeDiff, Nat.reduceMul, ↓reduceIte, reduceCtorEq]
  refine ⟨fun h => absurd h (by omega), fun _ => ?_⟩
  refine call_slices_insertionSortCmpFunc_int (by simp) ?_
  simp only [c_slices_insertionSortCmpFunc_int, not_true_eq_false, not_false_eq_true, decide_true, decide_false, Bool.not_true, Bool.not_false, false_implies, true_implies, and_true, true_and, Bool.false_eq_true, Bool.true_eq_false, implies_true, Bool.not_not, Classical.not_not, go_sem, Int.reduceToNat, List.take_nil, Nat.zero_mul, Nat.reduceEqDiff, Nat.reduceAdd, Nat.reduceLT, Nat.reduceLeDiff, Nat.reduceMul, ↓reduceIte, reduceCtorEq]
  refine ⟨by omega, loop_count 0 (fun i => ⟨[(0, .sn), (1, .i .i64 0), (2, .i .i64 0), (3, .fn f [] cb), (8, .i .i64 1)], σ⟩) (fun _ => True) trivial (Wk.keep (by simp [look_cons])) fun i hi _ => ?_⟩
  simp only [l1_slices_insertionSortCmpFunc_int, not_true_eq_false, not_false_eq_true, decide_true, decide_false, Bool.not_true, Bool.not_false, false_implies, true_implies, and_true, true_and, Bool.false_eq_true, Bool.true_eq_false, implies_true, Bool.not_not, Classical.not_not, go_sem, Int.reduceToNat, List.take_nil, Nat.zero_mul, Nat.reduceEqDiff, Nat.reduceAdd, Nat.reduceLT, Nat.reduceLeDiff, Nat.reduceMul, ↓reduceIte, reduceCtorEq]
  refine ⟨fun h => absurd h (by omega), fun _ => Fin.plain ?_⟩
  simp only [not_true_eq_false, not_false_eq_true, decide_true, decide_false, Bool.not_true, Bool.not_false, false_implies, true_implies, and_true, true_and, Bool.false_eq_true, Bool.true_eq_false, implies_true, Bool.not_not, Classical.not_not, go_sem, Int.reduceToNat, List.take_nil, Nat.zero_mul, Nat.reduceEqDiff, Nat.reduceAdd, Nat.reduceLT, Nat.reduceLeDiff, Nat.reduceMul, ↓reduceIte, reduceCtorEq]
  refine loop_count 0 (fun i => ⟨[(0, .sn), (1, .i .i64 0), (2, .fn f [] cb), (6, .i .i64 20)], σ⟩) (fun _ => True) trivial (Wk.keep (by simp [look_cons])) fun i hi _ => ?_
  simp only [l1_slices_stableCmpFunc_int, not_true_eq_false, not_false_eq_true, decide_true, decide_false, Bool.not_true, Bool.not_false, false_implies, true_implies, and_true, true_and, Bool.false_eq_true, Bool.true_eq_false, implies_true, Bool.not_not, Classical.not_not, go_sem, Int.reduceToNat, List.take_nil, Nat.zero_mul, Nat.reduceEqDiff, Nat.reduceAdd, Nat.reduceLT, Nat.reduceLeDiff, Nat.reduceMul, ↓reduceIte, reduceCtorEq]
  refine ⟨fun h => absurd h (by omega), fun _ => Fin.plain ?_⟩
  simp only [not_true_eq_false, not_false_eq_true, decide_true, decide_false, Bool.not_true, Bool.not_false, false_implies, true_implies, and_true, true_and, Bool.false_eq_true, Bool.true_eq_false, implies_true, Bool.not_not, Classical.not_not, go_sem, Int.reduceToNat, List.take_nil, Nat.zero_mul, Nat.reduceEqDiff, Nat.reduceAdd, Nat.reduceLT, Nat.reduceLeDiff, Nat.reduceMul, ↓reduceIte, reduceCtorEq]
  exact Fin.plain hk
theorem slices_Clone_nil {σ : List AB} {K : AV → List AB → Prop} (hk : K .sn σ) : CallWp Try.prog n_slices_Clone_int [.sn] σ K := by
  refine call_slices_Clone_int (by simp) ?_
  simp only [c_slices_Clone_int, not_true_eq_false, not_false_eq_true, decide_true, decide_false, Bool.not_true, Bool.not_false, false_implies, true_implies, and_true, true_and, Bool.false_eq_true, Bool.true_eq_false, implies_true, Bool.not_not, Classical.not_not, go_sem, Int.reduceToNat, List.take_nil, Nat.zero_mul, Nat.reduceEqDiff, Nat.reduceAdd, Nat.reduceLT, Nat.reduceLeDiff, Nat.reduceMul, ↓reduceIte, reduceCtorEq]
  exact Fin.plain hk
theorem slices_Clone_some {σ : List AB} {n o len cap : Nat} {cs : List AV} (h : cellsOf σ n = some cs) (hl : o + len ≤ cs.length) (h0 : 0 < len) (h1 : len ≤ 1000000) {K : AV → List AB → Prop}
    (hk : ∀ c, len ≤ c → K (.sl (σ.length + 1) 0 len c) ((σ ++ [.rw ty_int [] 0]) ++ [.rw ty_int (win cs o len) c])) : CallWp Try.prog n_slices_Clone_int [.sl n o len cap] σ K := by
  refine call_slices_Clone_int (by simp) ?_
  simp only [c_slices_Clone_int, at_new0, onC_old h, not_true_eq_false, not_false_eq_true, decide_true, decide_false, Bool.not_true, Bool.not_false, false_implies, true_implies, and_true, true_and, Bool.false_eq_true, Bool.true_eq_false, implies_true, Bool.not_not, Classical.not_not, go_sem, Int.reduceToNat, List.take_nil, Nat.zero_mul, Nat.reduceEqDiff, Nat.reduceAdd, Nat.reduceLT, Nat.reduceLeDiff, Nat.reduceMul, ↓reduceIte, reduceCtorEq]
  exact ⟨fun h2 => absurd h2 (by omega), ⟨by omega, by omega⟩, fun h2 => absurd h2 (by omega), fun _ c hc => Fin.plain (hk c hc)⟩
theorem impl_clone_nil {σ : List AB} {K : AV → List AB → Prop} (hk : K .sn σ) : CallWp Try.prog n_impl_clone_int [.sn] σ K := by
  refine call_impl_clone_int (by simp) ?_
  simp only [c_impl_clone_int, not_true_eq_false, not_false_eq_true, decide_true, decide_false, Bool.not_true, Bool.not_false, false_implies, true_implies, and_true, true_and, Bool.false_eq_true, Bool.true_eq_false, implies_true, Bool.not_not, Classical.not_not, go_sem, Int.reduceToNat, List.take_nil, Nat.zero_mul, Nat.reduceEqDiff, Nat.reduceAdd, Nat.reduceLT, Nat.reduceLeDiff, Nat.reduceMul, ↓reduceIte, reduceCtorEq]
  refine slices_Clone_nil ?_
  simp only [not_true_eq_false, not_false_eq_true, decide_true, decide_false, Bool.not_true, Bool.not_false, false_implies, true_implies, and_true, true_and, Bool.false_eq_true, Bool.true_eq_false, implies_true, Bool.not_not, Classical.not_not, go_sem, Int.reduceToNat, List.take_nil, Nat.zero_mul, Nat.reduceEqDiff, Nat.reduceAdd, Nat.reduceLT, Nat.reduceLeDiff, Nat.reduceMul, ↓reduceIte, reduceCtorEq]
  refine slices_Clip_int_nil ?_
  simp only [not_true_eq_false, not_false_eq_true, decide_true, decide_false, Bool.not_true, Bool.not_false, false_implies, true_implies, and_true, true_and, Bool.false_eq_true, Bool.true_eq_false, implies_true, Bool.not_not, Classical.not_not, go_sem, Int.reduceToNat, List.take_nil, Nat.zero_mul, Nat.reduceEqDiff, Nat.reduceAdd, Nat.reduceLT, Nat.reduceLeDiff, Nat.reduceMul, ↓reduceIte, reduceCtorEq]
  exact Fin.plain hk
theorem impl_clone_some {σ : List AB} {n o len cap : Nat} {cs : List AV} (h : cellsOf σ n = some cs) (hl : o + len ≤ cs.length) (h0 : 0 < len) (h1 : len ≤ 1000000) {K : AV → List AB → Prop}
    (hk : ∀ c, len ≤ c → K (.sl (σ.length + 1) 0 len len) ((σ ++ [.rw ty_int [] 0]) ++ [.rw ty_int (win cs o len) c])) : CallWp Try.prog n_impl_clone_int [.sl n o len cap] σ K := by
  refine call_impl_clone_int (by simp) ?_
  simp only [c_impl_clone_int, not_true_eq_false, not_false_eq_true, decide_true, decide_false, Bool.not_true, Bool.not_false, false_implies, true_implies, and_true, true_and, Bool.false_eq_true, Bool.true_eq_false, implies_true, Bool.not_not, Classical.not_not, go_sem, Int.reduceToNat, List.take_nil, Nat.zero_mul, Nat.reduceEqDiff, Nat.reduceAdd, Nat.reduceLT, Nat.reduceLeDiff, Nat.reduceMul, ↓reduceIte, reduceCtorEq]
  refine slices_Clone_some h hl h0 h1 fun c hc => ?_
  simp only [not_true_eq_false, not_false_eq_true, decide_true, decide_false, Bool.not_true, Bool.not_false, false_implies, true_implies, and_true, true_and, Bool.false_eq_true, Bool.true_eq_false, implies_true, Bool.not_not, Classical.not_not, go_sem, Int.reduceToNat, List.take_nil, Nat.zero_mul, Nat.reduceEqDiff, Nat.reduceAdd, Nat.reduceLT, Nat.reduceLeDiff, Nat.reduceMul, ↓reduceIte, reduceCtorEq]
  refine slices_Clip_int_ (b := .rw ty_int (win cs o len) c) ?_ hc ?_
  · rw [show σ.length + 1 = (σ ++ [AB.rw ty_int [] 0]).length by simp, at_new0]; rfl
  · simp only [not_true_eq_false, not_false_eq_true, decide_true, decide_false, Bool.not_true, Bool.not_false, false_implies, true_implies, and_true, true_and, Bool.false_eq_true, Bool.true_eq_false, implies_true, Bool.not_not, Classical.not_not, go_sem, Int.reduceToNat, List.take_nil, Nat.zero_mul, Nat.reduceEqDiff, Nat.reduceAdd, Nat.reduceLT, Nat.reduceLeDiff, Nat.reduceMul, ↓reduceIte, reduceCtorEq]
    exact Fin.plain (hk c hc)
def keepG (m N : Nat) (p : Nat → Nat) (v : AV) : List (Nat × AV) := [(2, .i .i64 m), (4, .p N 0), (6, .p (N + 1) 0), (7, .p (p 0) 0), (8, .p (p 4) 0), (9, v)]
def vRow (p : Nat → Nat) (t : Nat) (r : List Int) : AV := if r = [] then .sn else .sl (p (t + 6)) 0 r.length r.length
section
variable {L : List Job} {j jc : Nat} {σ H : List AB} {q : QG} {p c : Nat → Nat}
theorem GF.aRow (h : GF L j jc σ q H p c) {k : Nat} (hk : k < q.R.length) (hr : gRw q.R k ≠ []) : H[p (k + 6)]? = some (.rw ty_int (encInt.row (gRw q.R k)) (c (k + 6) * 1)) := h.lay.at (i := k + 6) (if_pos ⟨hk, hr⟩)
theorem gDo_snoc {L : List Job} {now : Nat} (r : List Nat) (i : Nat) (s : GSt) : gDo L now (r ++ [i]) s = gDo1 L now (gDo L now r s) i := by unfold gDo; rw [List.foldl_append]; rfl
theorem rg_run {m : Nat} {o : List Nat} {s : GSt} {L0 : Nat} {Q : Exit → St → Prop} {T : List (Nat × AV)} (hl : L.length ≤ 1000000) (hj : cellsOf σ j = some (encJob.row L)) (ho : ∀ i ∈ o, i < L.length) (hol : o.length ≤ 1000000) (hb : ∀ i : Nat, i < L.length → -1000000 ≤ gI s.done i ∧ gI s.done i ≤ 1000000) (hnd : o.Nodup)
    (h1 : s.done.length = L.length) (h2 : s.fin.length = L.length) (hq1 : q.done = s.done) (hq2 : q.fin = s.fin) (hqt : q.t ≤ 1000000) (hR : q.n < q.R.length) (hRn : gRw q.R q.n = natsOf o) (hF : GF L j jc σ q H p c)
    (hT : ∀ x ∈ keepG m σ.length p (vRow p q.n (natsOf o)) ++ [(65, vRow p q.n (natsOf o)), (66, .i .i64 o.length), (67, .i .i64 0)], Abs.look T x.1 = x.2)
    (hk : ∀ T' H', (∀ x ∈ keepG m σ.length p (vRow p q.n (natsOf o)), Abs.look T' x.1 = x.2) → GF L j jc σ { q with done := (gDo L q.t o s).done, fin := (gDo L q.t o s).fin } H' p c → Q (.exit 4) ⟨T', H'⟩) :
    wpC Try.prog L0 112 (.loop l0_impl_RunGlobal) Q ⟨T, H⟩ := by
  refine loop_intro (fun i : Nat × List AB => ⟨keepG m σ.length p (vRow p q.n (natsOf o)) ++ [(65, vRow p q.n (natsOf o)), (66, .i .i64 o.length), (67, .i .i64 i.1)], i.2⟩)
    (fun i => i.1 ≤ o.length ∧ GF L j jc σ { q with done := (gDo L q.t (o.take i.1) s).done, fin := (gDo L q.t (o.take i.1) s).fin } i.2 p c) (fun i => o.length - i.1) (0, H) ⟨Nat.zero_le _, by
      rw [List.take_zero]
      have : q = { q with done := (gDo L q.t [] s).done, fin := (gDo L q.t [] s).fin } := by
        cases q; simp only at hq1 hq2; subst hq1 hq2; rfl
      rw [← this]; exact hF⟩ (Wk.keep hT) ?_
  rintro ⟨k, H1⟩ ⟨hk1, hF1⟩
  simp only at hk1 hF1
  simp only [l0_impl_RunGlobal, keepG, List.cons_append, List.nil_append, not_true_eq_false, not_false_eq_true, decide_true, decide_false, Bool.not_true, Bool.not_false, false_implies, true_implies, and_true, true_and, Bool.false_eq_true, Bool.true_eq_false, implies_true, Bool.not_not, Classical.not_not, go_sem, Int.reduceToNat, List.take_nil, Nat.zero_mul, Nat.reduceEqDiff, Nat.reduceAdd, Nat.reduceLT, Nat.reduceLeDiff, Nat.reduceMul, ↓reduceIte, reduceCtorEq]
  refine ⟨fun hlt => ?_, fun hge => ?_⟩
  · have hne : natsOf o ≠ [] := fun e => by
      have := congrArg List.length e
      rw [natsOf_len, List.length_nil] at this; omega
    have hv : vRow p q.n (natsOf o) = .sl (p (q.n + 6)) 0 o.length o.length := by rw [vRow, if_neg hne, natsOf_len]
    have hok := ho _ (List.getElem_mem hlt)
    have hlen := gDo_len (L := L) (now := q.t) (o.take k) s
    have hsn := gDo_snoc (L := L) (now := q.t) (o.take k) o[k] s
    rw [← List.take_succ_eq_append_getElem hlt] at hsn
    have hnk : (o.take k).Nodup := hnd.sublist (List.take_sublist ..)
    have hnin : o[k] ∉ o.take k := fun hm => by
      obtain ⟨r, hr, e⟩ := List.getElem_of_mem hm
      rw [List.length_take] at hr
      rw [List.getElem_take] at e
      exact List.pairwise_iff_getElem.1 hnd r k (by omega) hlt (by omega) e
    have hgd := (gDo_get (L := L) (now := q.t) (s := s) hnk (fun i hi => by have := ho i (List.mem_of_mem_take hi); omega) o[k]).1
    rw [if_neg hnin, Int.add_zero] at hgd
    have hb1 := hb o[k] hok
    generalize gDo L q.t (o.take k) s = s1 at hF1 hlen hsn hgd
    have d1 : o[k] < s1.done.length := by omega
    have d2 : o[k] < s1.fin.length := by omega
    have gd : gI s1.done o[k] = s1.done[o[k]] := by simp [gI, List.getD_eq_getElem?_getD, d1]
    have gL : L.getD o[k] default = L[o[k]] := by simp [List.getD_eq_getElem?_getD, hok]
    have hns : ∀ v, o[k] < (s1.done.set o[k] v).length := fun v => by rw [List.length_set]; exact d1
    have gs : (s1.done.set o[k] (s1.done[o[k]] + 1))[o[k]]'(hns _) = s1.done[o[k]] + 1 := List.getElem_set_self ..
    have hbox := hF1.box
    have c0 := hF1.a0
    have c1 := hF1.a1
    have c3 := hF1.a3
    have c4 := hF1.a4
    have cR := hF1.aRow (k := q.n) hR (by simp only; rw [hRn]; exact hne)
    simp only at c0 c1 c3 c4 cR
    rw [hRn] at cR
    have rk : rd (encInt.row (natsOf o)) k = .i .i64 (o[k] : Nat) := by
      have hkl : k < (natsOf o).length := by rw [natsOf_len]; exact hlt
      rw [rdI hkl, natsOf_get hkl]
    have hF2 := hF1.setDone (s1.done.set o[k] (s1.done[o[k]] + 1))
    have lN : (natsOf o).length = o.length := natsOf_len o
    have l1' := hF2.lay.lt (i := 1) rfl
    have e2a := hF2.a0
    have e2b := hF2.a1
    have e2c := hF2.a3
    have e2d := hF2.a4
    have e2e := hF2.box
    simp only at e2a e2b e2c e2d
    have hjc := hF1.base.cells hj
    have hjc2 := hF2.base.cells hj
    simp only [hv, c0, c1, c3, c4, cR, hbox, rk, lenI, lN, rdI d1, splI d1, e2a, e2b, e2c, e2d, e2e, rdI (hns _), gs, onC_of hjc2, rdJ3 hok, lenJ, List.length_set, hlen, h1, h2, splI d2, not_true_eq_false, not_false_eq_true, decide_true, decide_false, Bool.not_true, Bool.not_false, false_implies, true_implies, and_true, true_and, Bool.false_eq_true, Bool.true_eq_false, implies_true, Bool.not_not, Classical.not_not, go_sem, Int.reduceToNat, List.take_nil, Nat.zero_mul, Nat.reduceEqDiff, Nat.reduceAdd, Nat.reduceLT, Nat.reduceLeDiff, Nat.reduceMul, ↓reduceIte, reduceCtorEq]
    have hbd : -1000000 ≤ s1.done[o[k]] ∧ s1.done[o[k]] ≤ 1000000 := by rw [← gd]; omega
    repeat refine ⟨by omega, ?_⟩
    refine ⟨fun he => ?_, fun he => ?_⟩
    · repeat refine ⟨by omega, ?_⟩
      have hF3 := hF2.setFin (s1.fin.set o[k] ((q.t : Int) + 1))
      simp only at hF3
      rw [Nat.mul_one] at hF3
      refine ⟨(k + 1, _), ⟨⟨by simp only; omega, ?_⟩, by simp only; omega⟩, Wk.keep ?_⟩
      · simp only [hsn]
        unfold gDo1
        simp only [gd, gL]
        rw [if_pos he]
        exact hF3
      · intro x hx
        simp only [List.mem_cons, List.not_mem_nil, or_false] at hx
        rcases hx with rfl | rfl | rfl | rfl | rfl | rfl | rfl | rfl | rfl <;> simp [look_cons]
    · refine ⟨by omega, (k + 1, _), ⟨⟨by simp only; omega, ?_⟩, by simp only; omega⟩, Wk.keep ?_⟩
      · simp only [hsn]
        unfold gDo1
        simp only [gd, gL, he, if_false]
        exact hF2
      · intro x hx
        simp only [List.mem_cons, List.not_mem_nil, or_false] at hx
        rcases hx with rfl | rfl | rfl | rfl | rfl | rfl | rfl | rfl | rfl <;> simp [look_cons]
  · have e : k = o.length := by omega
    subst e
    rw [List.take_length] at hF1
    refine hk _ _ ?_ hF1
    intro x hx
    simp only [keepG, List.mem_cons, List.not_mem_nil, or_false] at hx
    rcases hx with rfl | rfl | rfl | rfl | rfl | rfl <;> simp [look_cons]
def vCur (p c : Nat → Nat) (W : List Int) : AV := if W = [] then .sn else .sl (p 5) 0 W.length (c 5)
theorem rdyUp_lt {done : List Int} {now : Nat} {x : Int} (h : x ∈ rdyUp L done now L.length) : 0 ≤ x ∧ x < (L.length : Int) := by
  obtain ⟨i, rfl, h1, _⟩ := rdyUp_mem.1 h
  omega
theorem rg_collect {m L0 : Nat} {Q : Exit → St → Prop} {T : List (Nat × AV)} (hl : L.length ≤ 1000) (hj : cellsOf σ j = some (encJob.row L)) (hd : q.done.length = L.length) (hF : GF L j jc σ q H p c) (hq : q.cur = [])
    (hT : ∀ x ∈ keepG m σ.length p .sn ++ [(43, .i .i64 L.length), (44, .i .i64 0)], Abs.look T x.1 = x.2)
    (hk : ∀ T' H' p' c', (∀ x ∈ keepG m σ.length p' (vCur p' c' (rdyUp L q.done q.t L.length)), Abs.look T' x.1 = x.2) → GF L j jc σ { q with cur := rdyUp L q.done q.t L.length } H' p' c' → Q (.exit 2) ⟨T', H'⟩) :
    wpC Try.prog L0 112 (.loop l1_impl_RunGlobal) Q ⟨T, H⟩ := by
  refine loop_intro (fun i : Nat × List AB × (Nat → Nat) × (Nat → Nat) => ⟨keepG m σ.length i.2.2.1 (vCur i.2.2.1 i.2.2.2 (rdyUp L q.done q.t i.1)) ++ [(43, .i .i64 L.length), (44, .i .i64 i.1)], i.2.1⟩)
    (fun i => i.1 ≤ L.length ∧ GF L j jc σ { q with cur := rdyUp L q.done q.t i.1 } i.2.1 i.2.2.1 i.2.2.2) (fun i => L.length - i.1) (0, H, p, c) ⟨Nat.zero_le _, by
      have : q = { q with cur := rdyUp L q.done q.t 0 } := by cases q; simp only at hq; subst hq; rfl
      rw [← this]; exact hF⟩ (Wk.keep hT) ?_
  rintro ⟨k, H1, p1, c1⟩ ⟨hk1, hF1⟩
  simp only at hk1 hF1
  have hsucc := rdyUp_succ (L := L) (done := q.done) (now := q.t) k
  have hle := rdyUp_le (L := L) (done := q.done) (now := q.t) k
  simp only [l1_impl_RunGlobal, keepG, List.cons_append, List.nil_append, not_true_eq_false, not_false_eq_true, decide_true, decide_false, Bool.not_true, Bool.not_false, false_implies, true_implies, and_true, true_and, Bool.false_eq_true, Bool.true_eq_false, implies_true, Bool.not_not, Classical.not_not, go_sem, Int.reduceToNat, List.take_nil, Nat.zero_mul, Nat.reduceEqDiff, Nat.reduceAdd, Nat.reduceLT, Nat.reduceLeDiff, Nat.reduceMul, ↓reduceIte, reduceCtorEq]
  refine ⟨fun hlt => ?_, fun hge => ?_⟩
  · refine impl_machine_ready_ (hF1.mach hj hd) k hlt ?_
    simp only [not_true_eq_false, not_false_eq_true, decide_true, decide_false, Bool.not_true, Bool.not_false, false_implies, true_implies, and_true, true_and, Bool.false_eq_true, Bool.true_eq_false, implies_true, Bool.not_not, Classical.not_not, go_sem, Int.reduceToNat, List.take_nil, Nat.zero_mul, Nat.reduceEqDiff, Nat.reduceAdd, Nat.reduceLT, Nat.reduceLeDiff, Nat.reduceMul, ↓reduceIte, reduceCtorEq]
    generalize hW : rdyUp L q.done q.t k = W at hF1 hsucc hle
    refine bc_of (fun hr => ?_) (fun hr => ?_)
    · rw [if_pos hr] at hsucc
      have hne2 : W ++ [(k : Int)] ≠ [] := by simp
      by_cases hW0 : W = []
      · subst hW0
        have hv : vCur p1 c1 [] = .sn := rfl
        simp only [hv, at_new0, not_true_eq_false, not_false_eq_true, decide_true, decide_false, Bool.not_true, Bool.not_false, false_implies, true_implies, and_true, true_and, Bool.false_eq_true, Bool.true_eq_false, implies_true, Bool.not_not, Classical.not_not, go_sem, Int.reduceToNat, List.take_nil, Nat.zero_mul, Nat.reduceEqDiff, Nat.reduceAdd, Nat.reduceLT, Nat.reduceLeDiff, Nat.reduceMul, ↓reduceIte, reduceCtorEq]
        intro cap hcap
        have hG := hF1.cur0 rfl [(k : Int)] (by simp) [.rw ty_int [.i .i64 k] 1] cap
        rw [Nat.mul_one] at hG
        refine ⟨by omega, (k + 1, _, up p1 5 (H1.length + 1), up c1 5 cap), ⟨⟨by simp only; omega, ?_⟩, by simp only; omega⟩, Wk.keep ?_⟩
        · simp only [hsucc]
          exact hG
        · intro x hx
          simp only [hsucc, List.mem_cons, List.not_mem_nil, or_false] at hx
          rcases hx with rfl | rfl | rfl | rfl | rfl | rfl | rfl | rfl <;> simp [look_cons, up, vCur]
      · have hv : vCur p1 c1 W = .sl (p1 5) 0 W.length (c1 5) := if_neg hW0
        have a5 := hF1.a5 hW0
        simp only at a5
        have f1 : ∀ one : AB, (H1 ++ [one])[p1 5]? = some (.rw ty_int (encInt.row W) (c1 5 * 1)) := fun one => at_old a5 _
        simp only [hv, at_new0, f1, lenI, not_true_eq_false, not_false_eq_true, decide_true, decide_false, Bool.not_true, Bool.not_false, false_implies, true_implies, and_true, true_and, Bool.false_eq_true, Bool.true_eq_false, implies_true, Bool.not_not, Classical.not_not, go_sem, Int.reduceToNat, List.take_nil, Nat.zero_mul, Nat.reduceEqDiff, Nat.reduceAdd, Nat.reduceLT, Nat.reduceLeDiff, Nat.reduceMul, ↓reduceIte, reduceCtorEq]
        refine ⟨by omega, fun cap hcap => ?_⟩
        have hG := hF1.cur1 hW0 (W ++ [(k : Int)]) hne2 [.rw ty_int [.i .i64 k] 1] cap
        rw [Nat.mul_one] at hG
        rw [takeI, appI]
        refine ⟨by omega, (k + 1, _, up p1 5 (H1.length + 1), up c1 5 cap), ⟨⟨by simp only; omega, ?_⟩, by simp only; omega⟩, Wk.keep ?_⟩
        · simp only [hsucc]
          exact hG
        · intro x hx
          simp only [hsucc, List.mem_cons, List.not_mem_nil, or_false] at hx
          rcases hx with rfl | rfl | rfl | rfl | rfl | rfl | rfl | rfl <;> simp [look_cons, up, vCur]
    · rw [if_neg (by rw [hr]; decide)] at hsucc
      refine ⟨by omega, (k + 1, H1, p1, c1), ⟨⟨by simp only; omega, by simp only [hsucc]; exact hF1⟩, by simp only; omega⟩, Wk.keep ?_⟩
      intro x hx
      simp only [hsucc, List.mem_cons, List.not_mem_nil, or_false] at hx
      rcases hx with rfl | rfl | rfl | rfl | rfl | rfl | rfl | rfl <;> simp [look_cons]
  · have e : k = L.length := by omega
    subst e
    refine hk _ _ _ _ ?_ hF1
    intro x hx
    simp only [keepG, List.mem_cons, List.not_mem_nil, or_false] at hx
    rcases hx with rfl | rfl | rfl | rfl | rfl | rfl <;> simp [look_cons]
end
end Go.Proofs.Ytmphblbpofnpaaa
/- Contracts: RunGlobal of the program. -/
namespace Go.Proofs.Ytmphblbpofnpaaa
open Go.Abs Go.Ds
set_option linter.unusedSimpArgs false
set_option linter.unusedVariables false
set_option maxRecDepth 20000
set_option maxHeartbeats 8000000
def globOk (S : List Task) (L : List Job) (m : Int) : Prop := jobsLegal S L ∧ (1 ≤ m ∧ m ≤ 5)
noncomputable instance (S : List Task) (L : List Job) (m : Int) : Decidable (globOk S L m) := by unfold globOk; infer_instance
def gRows (L : List Job) (m : Nat) : List (List Int) := (List.range 120).map fun k => natsOf (gRow L m k)
def qG (L : List Job) (m t : Nat) : QG := ⟨t, (gSt L m t).done, (gSt L m t).fin, [], (List.range t).map (fun k => natsOf (gRow L m k)), t⟩
def pS (N r f o : Nat) : Nat → Nat
  | 0 => N + 3
  | 1 => N + 2
  | 2 => N + r
  | 3 => N + f
  | 4 => N + o
  | _ => 0
theorem rows_zero (p : Nat → Nat) (R : List (List Int)) : rowsC p R 0 = rep 120 [.sn] := by
  unfold rowsC
  have : ∀ k, rowC p R 0 k = .sn := fun k => if_neg fun h => absurd h.1 (Nat.not_lt_zero _)
  rw [show rowC p R 0 = fun _ => .sn from funext this]
  rfl
theorem gf_start {L : List Job} {j jc M : Nat} {σ τ : List AB} (r f o cap : Nat) (h1 : 4 ≤ r ∧ 4 ≤ f ∧ 4 ≤ o ∧ r ≠ f ∧ r ≠ o ∧ f ≠ o) (e0 : τ[0]? = some (.rw ty_sl_impl_Job [.sl j 0 L.length jc] 1)) (e1 : τ[1]? = some (.rw ty_impl_GlobalRun [.sn, .sn] 2)) (e2 : τ[2]? = some (.rw ty_int (encInt.row (List.replicate L.length 0)) L.length))
    (e3 : τ[3]? = some (.rw ty_impl_machine [.sl j 0 L.length jc, .sl (σ.length + 2) 0 L.length L.length, .i .i64 0] 3)) (er : τ[r]? = some (.rw ty_sl_int (rep 120 [.sn]) 120)) (ef : τ[f]? = some (.rw ty_int (encInt.row (List.replicate L.length (-1))) cap)) (eo : τ[o]? = some (.rw ty_impl_GlobalRun [.sl (σ.length + r) 0 120 120, .sl (σ.length + f) 0 L.length cap] 2)) :
    GF L j jc σ (qG L M 0) (σ ++ τ) (pS σ.length r f o) (fun _ => cap) := by
  refine ⟨⟨fun m hm => List.getElem?_append_left hm, ?_⟩, by rw [at_new0]; exact e0, by rw [at_new]; exact e1, fun k b hk => ?_, fun k k' b b' hk hk' e => ?_⟩
  · have := (List.getElem?_eq_some_iff.1 e1).1
    rw [List.length_append]; omega
  · match k, hk with
    | 0, hk => cases hk; exact ⟨by simp [pS], by simp only [pS]; rw [at_new]; exact e3⟩
    | 1, hk => cases hk; exact ⟨by simp [pS], by simp only [pS]; rw [at_new]; exact e2⟩
    | 2, hk => cases hk; exact ⟨by simp [pS]; omega, by simp only [pS, qG]; rw [at_new, rows_zero]; exact er⟩
    | 3, hk => cases hk; exact ⟨by simp [pS]; omega, by simp only [pS, Nat.mul_one]; rw [at_new]; exact ef⟩
    | 4, hk => cases hk; exact ⟨by simp [pS]; omega, by simp only [pS]; rw [at_new]; exact eo⟩
    | 5, hk => simp [GB, qG] at hk
    | k + 6, hk => simp [GB, qG] at hk
  · have small : ∀ {k b}, GB L j jc (qG L M 0) (pS σ.length r f o) (fun _ => cap) k = some b → k < 5 := fun {k b} hk => by
      match k, hk with
      | 0, _ | 1, _ | 2, _ | 3, _ | 4, _ => decide
      | 5, hk => simp [GB, qG] at hk
      | k + 6, hk => simp [GB, qG] at hk
    have s1 := small hk
    have s2 := small hk'
    have c1 : k = 0 ∨ k = 1 ∨ k = 2 ∨ k = 3 ∨ k = 4 := by omega
    have c2 : k' = 0 ∨ k' = 1 ∨ k' = 2 ∨ k' = 3 ∨ k' = 4 := by omega
    rcases c1 with rfl | rfl | rfl | rfl | rfl <;> rcases c2 with rfl | rfl | rfl | rfl | rfl <;> simp only [pS] at e <;> omega
theorem seq_cut2 {P : Program} {L0 nt : Nat} {a b c : LC} {Q : Exit → St → Prop} {s : St} (R : St → Prop)
    (ha : wpC P L0 nt (.seq a b) (fun e s' => match e with | .normal => R s' | e => Q e s') s) (hb : ∀ s', R s' → wpC P L0 nt c Q s') : wpC P L0 nt (.seq a (.seq b c)) Q s := by
  simp only [wpC] at ha ⊢
  refine wpC_mono (fun e s' h => ?_) ha
  cases e with
  | normal =>
    refine wpC_mono (fun e s' h => ?_) h
    cases e with
    | normal => exact hb s' h
    | _ => exact h
  | _ => exact h
theorem set_same {H : List AB} {n : Nat} {b : AB} (h : H[n]? = some b) : H.set n b = H := by
  apply List.ext_getElem?
  intro i
  rw [List.getElem?_set]
  split
  · rename_i e
    subst e
    rw [if_pos (List.getElem?_eq_some_iff.1 h).1, h]
  · rfl
theorem winI0 (Z : List Int) (h : Nat) : win (encInt.row Z) 0 h = encInt.row (Z.take h) := by
  have := encInt.part Z 0 h
  simpa [encInt] using this
theorem vRow_data (p : Nat → Nat) (t : Nat) (r : List Int) : (vRow p t r).data = true := by unfold vRow; split <;> rfl
theorem vRow_cl (p : Nat → Nat) (t : Nat) (r : List Int) : (vRow p t r).cl = [vRow p t r] := by unfold vRow; split <;> rfl
theorem rows_set {p : Nat → Nat} {R : List (List Int)} {t : Nat} (ht : t < 120) {r : List Int} (hr : gRw R t = r) : spl (rowsC p R t) t [vRow p t r] = rowsC p R (t + 1) := by
  simp only [spl]
  apply List.ext_getElem
  · simp [rowsC]
  · intro i h1 h2
    have hi : i < 120 := by simpa [rowsC] using h2
    rw [List.getElem_set]
    simp only [rowsC, List.getElem_map, List.getElem_range]
    by_cases e : t = i
    · subst e
      rw [if_pos rfl]
      unfold rowC vRow
      rw [hr]
      by_cases h0 : r = []
      · rw [if_pos h0, if_neg fun g => g.2 h0]
      · rw [if_neg h0, if_pos ⟨Nat.lt_succ_self _, h0⟩]
    · rw [if_neg e]
      unfold rowC
      by_cases h3 : i < t
      · have h4 : i < t + 1 := by omega
        simp only [h3, h4, true_and]
      · have h4 : ¬ i < t + 1 := by omega
        simp only [h3, h4, false_and, if_false]
theorem gDn_bd {L : List Job} {m i : Nat} (hi : i < L.length) : ∀ t : Nat, 0 ≤ gDn L m t i ∧ gDn L m t i ≤ t
  | 0 => by have := gDn_zero (m := m) hi; omega
  | t + 1 => by
    have ih := gDn_bd (m := m) hi t
    have := gDn_succ (L := L) (m := m) t i
    split at this <;> omega
theorem vRow_len (p : Nat → Nat) (t : Nat) (o : List Nat) (F : Nat → Prop) (G : Prop) (h : F 0 → G) (hF : F o.length) : onSl (vRow p t (natsOf o)) (fun _ _ n _ => F n) G := by
  unfold vRow
  by_cases h0 : natsOf o = []
  · have : o.length = 0 := by rw [← natsOf_len, h0]; rfl
    rw [if_pos h0]
    rw [this] at hF
    exact h hF
  · rw [if_neg h0, natsOf_len]; exact hF
theorem gRows_len (L : List Job) (m : Nat) : (gRows L m).length = 120 := by simp [gRows]
theorem qG_R (L : List Job) (M k : Nat) (hk : k < 120) : gRw (qG L M 120).R k = natsOf (gRow L M k) := by simp [gRw, qG, List.getD_eq_getElem?_getD, hk]
theorem glob_final {L : List Job} {j jc M : Nat} {σ H : List AB} {p c : Nat → Nat} (hF : GF L j jc σ (qG L M 120) H p c) (b : AB) : GlobAnsN σ.length (H.set (σ.length + 1) b) (.agg [.sl (p 2) 0 120 120, .sl (p 3) 0 L.length (c 3)]) (gRows L M) (gFin L M) := by
  intro σ9 hl9 hs9
  have hL := hF.lay.low (n := σ.length + 1) (by omega) b
  have hat : ∀ i b, GB L j jc (qG L M 120) p c i = some b → σ9[p i]? = some b := fun i b hi => by
    rw [hs9 _ (by have := hL.ge hi; omega)]; exact hL.at hi
  have h0 : 0 < σ9.length := by rw [hl9, List.length_set]; have := hF.base.2; omega
  have hlen := gSt_len L M 120
  refine ⟨_, _, rfl, .inl ⟨p 2, 0, 120, _, by rw [gRows_len], cells_rwG (hat 2 _ rfl), by rw [gRows_len, rowsC_len]; omega, fun k hk => ?_⟩, ?_⟩
  · rw [gRows_len] at hk
    have e1 : (gRows L M)[k]'(by rw [gRows_len]; exact hk) = natsOf (gRow L M k) := by simp [gRows]
    have e2 : rd (rowsC p (qG L M 120).R (qG L M 120).n) (0 + k) = rowC p (qG L M 120).R 120 k := by simp [rowsC, rd, hk, qG]
    rw [e1, e2]
    unfold rowC
    rw [qG_R L M k hk]
    by_cases hn : natsOf (gRow L M k) = []
    · rw [if_neg fun g => g.2 hn, hn]
      exact .inr ⟨rfl, rfl, h0⟩
    · rw [if_pos ⟨hk, hn⟩]
      refine Rd.own (cells_rwG (ty := ty_int) (r := c (k + 6) * 1) (hat (k + 6) _ ?_))
      have : k < (qG L M 120).R.length := by simp [qG, hk]
      simp only [GB, qG_R L M k hk, this, hn, ne_eq, not_false_eq_true, and_self, if_true]
  · have := cells_rwG (hat 3 _ rfl)
    have e : L.length = (gFin L M).length := hlen.2.symm
    rw [e]
    exact Rd.own this
theorem impl_RunGlobal_ {σ : List AB} {S : List Task} {L : List Job} {v : AV} {j jc : Nat} {m : Int} {K : AV → List AB → Prop} (hs : S.length ≤ 1000000) (hl : L.length ≤ 1000) (hS : Rd encTask σ v S) (hj : cellsOf σ j = some (encJob.row L))
    (hn : ¬ globOk S L m → ∀ τ, K (.agg [.sn, .sn]) (σ ++ τ)) (hy : ∀ M : Nat, m = M → globOk S L m → ∀ τ x, GlobAnsN σ.length (σ ++ τ) x (gRows L M) (gFin L M) → K x (σ ++ τ)) :
    CallWp Try.prog n_impl_RunGlobal [v, .sl j 0 L.length jc, .i .i64 m] σ K := by
  have hjR : Rd encJob σ (.sl j 0 L.length jc) L := Rd.own hj
  refine call_impl_RunGlobal (by simp) ?_
  simp only [c_impl_RunGlobal, hS.data, at_new, at_new0, List.append_assoc, List.cons_append, List.nil_append, not_true_eq_false, not_false_eq_true, decide_true, decide_false, Bool.not_true, Bool.not_false, false_implies, true_implies, and_true, true_and, Bool.false_eq_true, Bool.true_eq_false, implies_true, Bool.not_not, Classical.not_not, go_sem, Int.reduceToNat, List.take_nil, Nat.zero_mul, Nat.reduceEqDiff, Nat.reduceAdd, Nat.reduceLT, Nat.reduceLeDiff, Nat.reduceMul, ↓reduceIte, reduceCtorEq]
  refine impl_JobsLegal_ (S := S) (L := L) (by omega) (by omega) hS.app hjR.app ?_
  simp only [at_new, at_new0, set_new, set_new0, List.append_assoc, List.cons_append, List.nil_append, not_true_eq_false, not_false_eq_true, decide_true, decide_false, Bool.not_true, Bool.not_false, false_implies, true_implies, and_true, true_and, Bool.false_eq_true, Bool.true_eq_false, implies_true, Bool.not_not, Classical.not_not, go_sem, Int.reduceToNat, List.take_nil, Nat.zero_mul, Nat.reduceEqDiff, Nat.reduceAdd, Nat.reduceLT, Nat.reduceLeDiff, Nat.reduceMul, ↓reduceIte, reduceCtorEq]
  have no : ¬ globOk S L m → ∀ τ, Fin σ.length (σ ++ τ) (.agg [.sn, .sn]) K := fun h τ => Fin.plain (hn h τ)
  refine ⟨fun h1 => ?_, fun h1 => no (fun h => h1 h.1) _⟩
  refine impl_isCoresG_ m ?_
  simp only [at_new, at_new0, set_new, set_new0, List.append_assoc, List.cons_append, List.nil_append, not_true_eq_false, not_false_eq_true, decide_true, decide_false, Bool.not_true, Bool.not_false, false_implies, true_implies, and_true, true_and, Bool.false_eq_true, Bool.true_eq_false, implies_true, Bool.not_not, Classical.not_not, go_sem, Int.reduceToNat, List.take_nil, Nat.zero_mul, Nat.reduceEqDiff, Nat.reduceAdd, Nat.reduceLT, Nat.reduceLeDiff, Nat.reduceMul, ↓reduceIte, reduceCtorEq]
  refine ⟨fun h2 => no (fun h => h2 h.2) _, fun h2 => ?_⟩
  have hok : globOk S L m := ⟨h1, h2⟩
  obtain ⟨M, rfl⟩ := Int.eq_ofNat_of_zero_le (show 0 ≤ m by omega)
  refine impl_newMachine_ (by omega) ?_
  simp only [at_new, at_new0, set_new, set_new0, List.append_assoc, List.cons_append, List.nil_append, not_true_eq_false, not_false_eq_true, decide_true, decide_false, Bool.not_true, Bool.not_false, false_implies, true_implies, and_true, true_and, Bool.false_eq_true, Bool.true_eq_false, implies_true, Bool.not_not, Classical.not_not, go_sem, Int.reduceToNat, List.take_nil, Nat.zero_mul, Nat.reduceEqDiff, Nat.reduceAdd, Nat.reduceLT, Nat.reduceLeDiff, Nat.reduceMul, ↓reduceIte, reduceCtorEq]
  refine seq_join (fun i : List AB × (Nat → Nat) × (Nat → Nat) => ⟨[(2, .i .i64 M), (4, .p σ.length 0), (6, .p (σ.length + 1) 0), (7, .p (i.2.1 0) 0), (8, .p (i.2.1 4) 0)], i.1⟩) (fun i => GF L j jc σ (qG L M 0) i.1 i.2.1 i.2.2) ?_ ?_
  · simp only [at_new, at_new0, set_new, set_new0, List.append_assoc, List.cons_append, List.nil_append, not_true_eq_false, not_false_eq_true, decide_true, decide_false, Bool.not_true, Bool.not_false, false_implies, true_implies, and_true, true_and, Bool.false_eq_true, Bool.true_eq_false, implies_true, Bool.not_not, Classical.not_not, go_sem, Int.reduceToNat, List.take_nil, Nat.zero_mul, Nat.reduceEqDiff, Nat.reduceAdd, Nat.reduceLT, Nat.reduceLeDiff, Nat.reduceMul, ↓reduceIte, reduceCtorEq]
    have leaf : ∀ (r f o cap : Nat) (T : List (Nat × AV)) (τ : List AB), GF L j jc σ (qG L M 0) (σ ++ τ) (pS σ.length r f o) (fun _ => cap) → (∀ x ∈ [((2 : Nat), AV.i .i64 M), (4, .p σ.length 0), (6, .p (σ.length + 1) 0), (7, .p (σ.length + 3) 0), (8, .p (σ.length + o) 0)], Abs.look T x.1 = x.2) →
        kJ σ.length 112 (fun i : List AB × (Nat → Nat) × (Nat → Nat) => ⟨[(2, .i .i64 M), (4, .p σ.length 0), (6, .p (σ.length + 1) 0), (7, .p (i.2.1 0) 0), (8, .p (i.2.1 4) 0)], i.1⟩) (fun i => GF L j jc σ (qG L M 0) i.1 i.2.1 i.2.2) (retP σ.length [RV.c 6 (some 2)] K) .normal ⟨T, σ ++ τ⟩ :=
      fun r f o cap T τ h g => kJ_intro (σ ++ τ, pS σ.length r f o, fun _ => cap) h (Wk.keep g)
    repeat' first
      | exact leaf 4 5 6 _ _ _ (gf_start 4 5 6 _ (by decide) rfl rfl rfl rfl rfl rfl rfl) (by simp [look_cons])
      | exact leaf 4 6 5 _ _ _ (gf_start 4 6 5 _ (by decide) rfl rfl rfl rfl rfl rfl rfl) (by simp [look_cons])
      | exact leaf 5 4 6 _ _ _ (gf_start 5 4 6 _ (by decide) rfl rfl rfl rfl rfl rfl rfl) (by simp [look_cons])
      | exact leaf 6 4 5 _ _ _ (gf_start 6 4 5 _ (by decide) rfl rfl rfl rfl rfl rfl rfl) (by simp [look_cons])
      | exact leaf 5 6 4 _ _ _ (gf_start 5 6 4 _ (by decide) rfl rfl rfl rfl rfl rfl rfl) (by simp [look_cons])
      | exact leaf 6 5 4 _ _ _ (gf_start 6 5 4 _ (by decide) rfl rfl rfl rfl rfl rfl rfl) (by simp [look_cons])
      | omega
      | (refine impl_none_ L.length (by omega) fun cap => ?_
         simp only [at_new, at_new0, set_new, set_new0, List.append_assoc, List.cons_append, List.nil_append, not_true_eq_false, not_false_eq_true, decide_true, decide_false, Bool.not_true, Bool.not_false, false_implies, true_implies, and_true, true_and, Bool.false_eq_true, Bool.true_eq_false, implies_true, Bool.not_not, Classical.not_not, go_sem, Int.reduceToNat, List.take_nil, Nat.zero_mul, Nat.reduceEqDiff, Nat.reduceAdd, Nat.reduceLT, Nat.reduceLeDiff, Nat.reduceMul, ↓reduceIte, reduceCtorEq])
      | refine ⟨?_, ?_⟩
  rintro ⟨H0, p0, c0⟩ hF0
  simp only [not_true_eq_false, not_false_eq_true, decide_true, decide_false, Bool.not_true, Bool.not_false, false_implies, true_implies, and_true, true_and, Bool.false_eq_true, Bool.true_eq_false, implies_true, Bool.not_not, Classical.not_not, go_sem, Int.reduceToNat, List.take_nil, Nat.zero_mul, Nat.reduceEqDiff, Nat.reduceAdd, Nat.reduceLT, Nat.reduceLeDiff, Nat.reduceMul, ↓reduceIte, reduceCtorEq]
  refine loop_intro (fun i : Nat × List AB × (Nat → Nat) × (Nat → Nat) => ⟨[(2, .i .i64 M), (4, .p σ.length 0), (6, .p (σ.length + 1) 0), (7, .p (i.2.2.1 0) 0), (8, .p (i.2.2.1 4) 0)], i.2.1⟩)
    (fun i => i.1 ≤ 120 ∧ GF L j jc σ (qG L M i.1) i.2.1 i.2.2.1 i.2.2.2) (fun i => 120 - i.1) (0, H0, p0, c0) ⟨Nat.zero_le _, hF0⟩ (Wk.keep (by simp [look_cons])) ?_
  rintro ⟨t, H, p, c⟩ ⟨ht, hF⟩
  simp only at ht hF
  have hbox := hF.box
  have a0 := hF.a0
  have a4 := hF.a4
  simp only [l2_impl_RunGlobal, a0, a4, hbox, not_true_eq_false, not_false_eq_true, decide_true, decide_false, Bool.not_true, Bool.not_false, false_implies, true_implies, and_true, true_and, Bool.false_eq_true, Bool.true_eq_false, implies_true, Bool.not_not, Classical.not_not, go_sem, Int.reduceToNat, List.take_nil, Nat.zero_mul, Nat.reduceEqDiff, Nat.reduceAdd, Nat.reduceLT, Nat.reduceLeDiff, Nat.reduceMul, ↓reduceIte, reduceCtorEq]
  refine ⟨fun hlt => ?_, fun hge => ?_⟩
  · have h60 : L.length ≤ 60 := h1.2.1.1
    have hlen := gSt_len L M t
    have hlt' : t < 120 := by have : ((qG L M t).t : Int) = t := rfl
                              omega
    have hsel := gRow_inv (L := L) (m := M) t
    refine rg_collect (m := M) (by omega) hj hlen.1 hF rfl (by
      intro x hx
      simp only [keepG, List.mem_cons, List.not_mem_nil, or_false, List.cons_append, List.nil_append] at hx
      rcases hx with rfl | rfl | rfl | rfl | rfl | rfl | rfl | rfl <;> simp [look_cons]) fun T1 H1 p1 c1 hT1 hF1 => ?_
    clear hF a0 a4 hbox
    simp only [kB_exit, ↓reduceIte, kS_normal]
    refine seq_cut2 (fun s' => ∃ T2 H2 p2 c2, s' = ⟨T2, H2⟩ ∧ (∀ x ∈ keepG M σ.length p2 (vRow p2 t (natsOf (gRow L M t))), Abs.look T2 x.1 = x.2) ∧ GF L j jc σ { qG L M t with R := (qG L M t).R ++ [natsOf (gRow L M t)] } H2 p2 c2) ?_ ?_
    · have k2 := hT1 (2, .i .i64 M) (by simp [keepG])
      have k4 := hT1 (4, .p σ.length 0) (by simp [keepG])
      have k6 := hT1 (6, .p (σ.length + 1) 0) (by simp [keepG])
      have k7 := hT1 (7, .p (p1 0) 0) (by simp [keepG])
      have k8 := hT1 (8, .p (p1 4) 0) (by simp [keepG])
      have k9 := hT1 (9, vCur p1 c1 (rdyUp L (qG L M t).done (qG L M t).t L.length)) (by simp [keepG])
      simp only at k2 k4 k6 k7 k8 k9
      have hnil : rdyUp L (gSt L M t).done t L.length = [] → gRow L M t = [] := gSel_nil (L := L) (now := t) (done := (gSt L M t).done) (n := M) (by omega)
      have hsort := fun Z => sel_sorted (L := L) (now := t) (done := (gSt L M t).done) (Z := Z)
      have hrl := rdyUp_le (L := L) (done := (gSt L M t).done) (now := t) L.length
      have hra := rdyUp_asc (L := L) (done := (gSt L M t).done) (now := t) L.length
      have hrr := fun x => rdyUp_lt (L := L) (done := (gSt L M t).done) (now := t) (x := x)
      change Abs.look T1 9 = vCur p1 c1 (rdyUp L (gSt L M t).done t L.length) at k9
      change GF L j jc σ { qG L M t with cur := rdyUp L (gSt L M t).done t L.length } H1 p1 c1 at hF1
      generalize rdyUp L (gSt L M t).done t L.length = W at *
      by_cases hW : W = []
      · subst hW
        have ho' := hnil rfl
        have k9' : Abs.look T1 9 = .sn := k9
        have hF2 : GF L j jc σ { qG L M t with R := (qG L M t).R ++ [[]] } H1 p1 c1 := (hF1.row0 (by simp [qG])).noCur
        simp only [k2, k4, k9', not_true_eq_false, not_false_eq_true, decide_true, decide_false, Bool.not_true, Bool.not_false, false_implies, true_implies, and_true, true_and, Bool.false_eq_true, Bool.true_eq_false, implies_true, Bool.not_not, Classical.not_not, go_sem, Int.reduceToNat, List.take_nil, Nat.zero_mul, Nat.reduceEqDiff, Nat.reduceAdd, Nat.reduceLT, Nat.reduceLeDiff, Nat.reduceMul, ↓reduceIte, reduceCtorEq]
        refine sortNil_ ?_
        simp only [k2, k9', not_true_eq_false, not_false_eq_true, decide_true, decide_false, Bool.not_true, Bool.not_false, false_implies, true_implies, and_true, true_and, Bool.false_eq_true, Bool.true_eq_false, implies_true, Bool.not_not, Classical.not_not, go_sem, Int.reduceToNat, List.take_nil, Nat.zero_mul, Nat.reduceEqDiff, Nat.reduceAdd, Nat.reduceLT, Nat.reduceLeDiff, Nat.reduceMul, ↓reduceIte, reduceCtorEq]
        have e0 : (if (0 : Int) < M then (0 : Int) else M) = 0 := if_pos (by omega)
        rw [e0]
        refine ⟨Int.le_refl _, rfl, impl_clone_nil ?_⟩
        simp only [not_true_eq_false, not_false_eq_true, decide_true, decide_false, Bool.not_true, Bool.not_false, false_implies, true_implies, and_true, true_and, Bool.false_eq_true, Bool.true_eq_false, implies_true, Bool.not_not, Classical.not_not, go_sem, Int.reduceToNat, List.take_nil, Nat.zero_mul, Nat.reduceEqDiff, Nat.reduceAdd, Nat.reduceLT, Nat.reduceLeDiff, Nat.reduceMul, ↓reduceIte, reduceCtorEq]
        refine ⟨_, H1, p1, c1, rfl, ?_, by rw [ho']; exact hF2⟩
        rw [ho']
        intro x hx
        simp only [keepG, List.mem_cons, List.not_mem_nil, or_false] at hx
        rcases hx with rfl | rfl | rfl | rfl | rfl | rfl <;> simp [look_cons, k2, k4, k6, k7, k8, vRow, natsOf]
      · have hv : vCur p1 c1 W = .sl (p1 5) 0 W.length (c1 5) := if_neg hW
        rw [hv] at k9
        have a5 := hF1.a5 (q := { qG L M t with cur := W }) hW
        simp only at a5
        simp only [k2, k4, k9, not_true_eq_false, not_false_eq_true, decide_true, decide_false, Bool.not_true, Bool.not_false, false_implies, true_implies, and_true, true_and, Bool.false_eq_true, Bool.true_eq_false, implies_true, Bool.not_not, Classical.not_not, go_sem, Int.reduceToNat, List.take_nil, Nat.zero_mul, Nat.reduceEqDiff, Nat.reduceAdd, Nat.reduceLT, Nat.reduceLeDiff, Nat.reduceMul, ↓reduceIte, reduceCtorEq]
        have hsE := hF1.sort (by omega) hj hW
        have e1 : H1 = H1.set (p1 5) (.rw ty_int (encInt.row W) (c1 5 * 1)) := (set_same a5).symm
        rw [e1]
        refine sortStable_ hsE (by omega) hrr hra fun Z pZ sZ => ?_
        have hZ0 : Z ≠ [] := fun e => hW (by rw [e] at pZ; exact List.nil_perm.1 pZ)
        have hF2 := hF1.setCur hW Z hZ0
        have hlZ : Z.length = W.length := pZ.length_eq
        have hsrt := hsort Z pZ sZ M
        have a6 := hF2.a5 hZ0
        simp only at a6
        generalize H1.set (p1 5) (.rw ty_int (encInt.row Z) (c1 5 * 1)) = H2 at *
        simp only [k2, k9, not_true_eq_false, not_false_eq_true, decide_true, decide_false, Bool.not_true, Bool.not_false, false_implies, true_implies, and_true, true_and, Bool.false_eq_true, Bool.true_eq_false, implies_true, Bool.not_not, Classical.not_not, go_sem, Int.reduceToNat, List.take_nil, Nat.zero_mul, Nat.reduceEqDiff, Nat.reduceAdd, Nat.reduceLT, Nat.reduceLeDiff, Nat.reduceMul, ↓reduceIte, reduceCtorEq]
        obtain ⟨h, hh⟩ : ∃ h : Nat, h = min W.length M := ⟨_, rfl⟩
        have e2 : (if W.length < M then (W.length : Int) else M) = h := by split <;> omega
        have hpos : 0 < W.length := List.length_pos_iff.2 hW
        rw [e2]
        have hrow : Z.take h = natsOf (gRow L M t) := by
          rw [← show Z.take M = natsOf (gRow L M t) from hsrt]
          rcases Nat.lt_or_ge W.length M with g | g
          · rw [List.take_of_length_le (by omega), List.take_of_length_le (by omega)]
          · rw [hh, Nat.min_eq_right g]
        have hne : natsOf (gRow L M t) ≠ [] := fun e => by
          rw [← hrow] at e
          have := congrArg List.length e
          rw [List.length_take, List.length_nil] at this
          omega
        have hlo : (natsOf (gRow L M t)).length = h := by rw [← hrow, List.length_take]; omega
        simp only [Int.toNat_natCast, not_true_eq_false, not_false_eq_true, decide_true, decide_false, Bool.not_true, Bool.not_false, false_implies, true_implies, and_true, true_and, Bool.false_eq_true, Bool.true_eq_false, implies_true, Bool.not_not, Classical.not_not, go_sem, Int.reduceToNat, List.take_nil, Nat.zero_mul, Nat.reduceEqDiff, Nat.reduceAdd, Nat.reduceLT, Nat.reduceLeDiff, Nat.reduceMul, ↓reduceIte, reduceCtorEq]
        refine ⟨.inr (by omega), impl_clone_some (cells_rwG a6) (by rw [lenI]; omega) (by omega) (by omega) fun cap hcap => ?_⟩
        rw [winI0, hrow]
        have hF3 := (hF2.row (by simp [qG]) (natsOf (gRow L M t)) hne [.rw ty_int [] 0] cap).noCur
        rw [Nat.mul_one] at hF3
        have e4 : (qG L M t).R.length = t := by simp [qG]
        simp only [not_true_eq_false, not_false_eq_true, decide_true, decide_false, Bool.not_true, Bool.not_false, false_implies, true_implies, and_true, true_and, Bool.false_eq_true, Bool.true_eq_false, implies_true, Bool.not_not, Classical.not_not, go_sem, Int.reduceToNat, List.take_nil, Nat.zero_mul, Nat.reduceEqDiff, Nat.reduceAdd, Nat.reduceLT, Nat.reduceLeDiff, Nat.reduceMul, ↓reduceIte, reduceCtorEq]
        refine ⟨_, _, _, _, rfl, ?_, hF3⟩
        intro x hx
        simp only [keepG, List.mem_cons, List.not_mem_nil, or_false] at hx
        have hv2 : vRow (up p1 (t + 6) (H2.length + 1)) t (natsOf (gRow L M t)) = .sl (H2.length + 1) 0 h h := by
          rw [vRow, if_neg hne, up_eq, hlo]
        simp only [e4, List.length_cons, List.length_nil, Nat.zero_add, hv2] at hx
        rcases hx with rfl | rfl | rfl | rfl | rfl | rfl <;> simp [look_cons, k2, k4, k6, k7, k8, up]
    · rintro _ ⟨T2, H2, p2, c2, rfl, hT2, hF2⟩
      clear hF1 hT1
      have k2 := hT2 (2, .i .i64 M) (by simp [keepG])
      have k4 := hT2 (4, .p σ.length 0) (by simp [keepG])
      have k6 := hT2 (6, .p (σ.length + 1) 0) (by simp [keepG])
      have k7 := hT2 (7, .p (p2 0) 0) (by simp [keepG])
      have k8 := hT2 (8, .p (p2 4) 0) (by simp [keepG])
      have k9 := hT2 (9, vRow p2 t (natsOf (gRow L M t))) (by simp [keepG])
      simp only at k2 k4 k6 k7 k8 k9
      have hRl : (qG L M t).R.length = t := by simp [qG]
      simp only [k9, not_true_eq_false, not_false_eq_true, decide_true, decide_false, Bool.not_true, Bool.not_false, false_implies, true_implies, and_true, true_and, Bool.false_eq_true, Bool.true_eq_false, implies_true, Bool.not_not, Classical.not_not, go_sem, Int.reduceToNat, List.take_nil, Nat.zero_mul, Nat.reduceEqDiff, Nat.reduceAdd, Nat.reduceLT, Nat.reduceLeDiff, Nat.reduceMul, ↓reduceIte, reduceCtorEq]
      refine vRow_len _ _ _ _ _ (fun h => h) ?_
      have hrow : gRw ((qG L M t).R ++ [natsOf (gRow L M t)]) t = natsOf (gRow L M t) := by
        have := gRw_new (qG L M t).R (natsOf (gRow L M t))
        rwa [hRl] at this
      have hqn : (qG L M t).n = t := rfl
      have hqt : (qG L M t).t = t := rfl
      refine rg_run (m := M) (o := gRow L M t) (s := gSt L M t) (by omega) hj hsel.lt (by have := hsel.len; omega) (fun i hi => by
        have := gDn_bd (m := M) hi t
        unfold gDn at this
        omega) hsel.nd hlen.1 hlen.2 rfl rfl (by simp only [hqt]; omega) (by simp only [List.length_append, hRl, hqn, List.length_cons]; omega) hrow hF2 (by
        intro x hx
        simp only [keepG, hqn, List.mem_cons, List.not_mem_nil, or_false, List.cons_append, List.nil_append] at hx
        rcases hx with rfl | rfl | rfl | rfl | rfl | rfl | rfl | rfl | rfl <;> simp [look_cons, k2, k4, k6, k7, k8, k9]) fun T3 H3 hT3 hF3 => ?_
      simp only [hqn, hqt] at hT3 hF3
      have q2 := hT3 (2, .i .i64 M) (by simp [keepG])
      have q4 := hT3 (4, .p σ.length 0) (by simp [keepG])
      have q6 := hT3 (6, .p (σ.length + 1) 0) (by simp [keepG])
      have q7 := hT3 (7, .p (p2 0) 0) (by simp [keepG])
      have q8 := hT3 (8, .p (p2 4) 0) (by simp [keepG])
      have q9 := hT3 (9, vRow p2 t (natsOf (gRow L M t))) (by simp [keepG])
      simp only at q2 q4 q6 q7 q8 q9
      have b0 := hF3.a0
      have b2 := hF3.a2
      have b4 := hF3.a4
      have hF4 := hF3.setN (t + 1)
      have hF5 := hF4.setT (t + 1)
      have d0 := hF4.a0
      simp only at b0 b2 b4 d0 hF5
      have hrs := rows_set (p := p2) (R := (qG L M t).R ++ [natsOf (gRow L M t)]) hlt' hrow
      simp only [q7, q8, q9, b0, b2, b4, hrs, rowsC_len, vRow_data, vRow_cl, d0, List.length_cons, List.length_nil, not_true_eq_false, not_false_eq_true, decide_true, decide_false, Bool.not_true, Bool.not_false, false_implies, true_implies, and_true, true_and, Bool.false_eq_true, Bool.true_eq_false, implies_true, Bool.not_not, Classical.not_not, go_sem, Int.reduceToNat, List.take_nil, Nat.zero_mul, Nat.reduceEqDiff, Nat.reduceAdd, Nat.reduceLT, Nat.reduceLeDiff, Nat.reduceMul, ↓reduceIte, reduceCtorEq]
      refine ⟨by omega, by omega, by omega, (t + 1, _, p2, c2), ⟨⟨by simp only; omega, ?_⟩, by simp only; omega⟩, Wk.keep ?_⟩
      rotate_left
      · intro x hx
        simp only [List.mem_cons, List.not_mem_nil, or_false] at hx
        rcases hx with rfl | rfl | rfl | rfl | rfl <;> simp [look_cons, q2, q4, q6, q7, q8]
      · have eq : ({ t := t + 1, done := (gDo L t (gRow L M t) (gSt L M t)).done, fin := (gDo L t (gRow L M t) (gSt L M t)).fin, cur := (qG L M t).cur, R := (qG L M t).R ++ [natsOf (gRow L M t)], n := t + 1 } : QG) = qG L M (t + 1) := by
          unfold qG
          rw [List.range_succ, List.map_append]; rfl
        simp only
        rw [← eq]
        exact hF5
  · have ht2 : t = 120 := by have : ((qG L M t).t : Int) = t := rfl
                             omega
    subst ht2
    have hres := hF.res
    have r2 : ∀ b : AB, (H.set (σ.length + 1) b)[σ.length + 1]? = some b := fun b => List.getElem?_set_self (by have := hF.base.2; omega)
    simp only [hres, r2, not_true_eq_false, not_false_eq_true, decide_true, decide_false, Bool.not_true, Bool.not_false, false_implies, true_implies, and_true, true_and, Bool.false_eq_true, Bool.true_eq_false, implies_true, Bool.not_not, Classical.not_not, go_sem, Int.reduceToNat, List.take_nil, Nat.zero_mul, Nat.reduceEqDiff, Nat.reduceAdd, Nat.reduceLT, Nat.reduceLeDiff, Nat.reduceMul, ↓reduceIte, reduceCtorEq]
    refine Fin.plain ?_
    have hb : Base σ (H.set (σ.length + 1) (.rw ty_impl_GlobalRun [.sl (p 2) 0 120 120, .sl (p 3) 0 L.length (c 3)] 2)) 2 := hF.base.set (by omega) _
    rw [← base_split' hb]
    refine hy M rfl hok _ _ ?_
    rw [base_split' hb]
    exact glob_final hF _
end Go.Proofs.Ytmphblbpofnpaaa
