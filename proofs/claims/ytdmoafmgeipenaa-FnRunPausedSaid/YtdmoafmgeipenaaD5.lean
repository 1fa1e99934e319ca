/- Regions with many orders: what is known of the state, whatever the order was. -/
import Derived.Test.YtdmoafmgeipenaaV1
import Derived.Test.YtdmoafmgeipenaaD4
namespace Go.Proofs.Ytdmoafmgeipenaa
open Go.Abs Go.Ds
set_option linter.unusedSimpArgs false
set_option linter.unusedVariables false
set_option maxRecDepth 20000

abbrev EqT (T : List (Nat × AV)) (t : Nat) (v : AV) : Prop := Abs.look T t = v
def NumT (T : List (Nat × AV)) (t : Nat) (lo hi : Int) : Prop := ∃ r, Abs.look T t = .i .i64 r ∧ lo ≤ r ∧ r ≤ hi
def RowB (σ : List AB) (T : List (Nat × AV)) (t n : Nat) (lo hi : Int) : Prop := ∃ (b cap : Nat) (L : List Int), Abs.look T t = .sl b 0 n cap ∧ L.length = n ∧ 4 ≤ b ∧ cellsOf σ b = some (encInt.row L) ∧ ∀ x ∈ L, lo ≤ x ∧ x ≤ hi
def CellT (σ : List AB) (T : List (Nat × AV)) (tp tv : Nat) (lo hi : Int) : Prop := ∃ (b o : Nat) (cs : List AV) (v : Int), Abs.look T tp = .p b o ∧ 4 ≤ b ∧ cellsOf σ b = some cs ∧ o < cs.length ∧ rd cs o = .i .i64 v ∧ Abs.look T tv = .i .i64 v ∧ lo ≤ v ∧ v ≤ hi

section
variable {σ : List AB} {T : List (Nat × AV)} {t tp tv d n : Nat} {lo hi : Int} {v : AV} {B : AB} {τ : List AB}
theorem EqT.put {w : AV} (h : t ≠ d) (e : EqT T t w) : EqT ((d, v) :: T) t w := by
  unfold EqT at e ⊢
  simp only [look_cons, if_neg (fun h' : d = t => h h'.symm)]; exact e
theorem NumT.put (h : t ≠ d) (e : NumT T t lo hi) : NumT ((d, v) :: T) t lo hi := by
  obtain ⟨r, h1, h2⟩ := e
  exact ⟨r, EqT.put h h1, h2⟩
theorem RowB.put (h : t ≠ d) (e : RowB σ T t n lo hi) : RowB σ ((d, v) :: T) t n lo hi := by
  obtain ⟨b, cap, L, h1, h2⟩ := e
  exact ⟨b, cap, L, EqT.put h h1, h2⟩
theorem CellT.put (h : tp ≠ d) (h' : tv ≠ d) (e : CellT σ T tp tv lo hi) : CellT σ ((d, v) :: T) tp tv lo hi := by
  obtain ⟨b, o, cs, x, h1, h2, h3, h4, h5, h6, h7⟩ := e
  exact ⟨b, o, cs, x, EqT.put h h1, h2, h3, h4, h5, EqT.put h' h6, h7⟩
theorem cells_set3 {b : Nat} {cs : List AV} (hb : 4 ≤ b) (h : cellsOf σ b = some cs) : cellsOf (σ.set 3 B) b = some cs := by
  have e : (σ.set 3 B)[b]? = σ[b]? := by rw [List.getElem?_set, if_neg (by omega)]
  unfold cellsOf at h ⊢
  rw [e]; exact h
theorem RowB.app (e : RowB σ T t n lo hi) : RowB (σ ++ τ) T t n lo hi := by
  obtain ⟨b, cap, L, h1, h2, h3, h4, h5⟩ := e
  exact ⟨b, cap, L, h1, h2, h3, cells_old h4 τ, h5⟩
theorem RowB.set (e : RowB σ T t n lo hi) : RowB (σ.set 3 B) T t n lo hi := by
  obtain ⟨b, cap, L, h1, h2, h3, h4, h5⟩ := e
  exact ⟨b, cap, L, h1, h2, h3, cells_set3 h3 h4, h5⟩
theorem CellT.app (e : CellT σ T tp tv lo hi) : CellT (σ ++ τ) T tp tv lo hi := by
  obtain ⟨b, o, cs, x, h1, h2, h3, h4⟩ := e
  exact ⟨b, o, cs, x, h1, h2, cells_old h3 τ, h4⟩
theorem CellT.set (e : CellT σ T tp tv lo hi) : CellT (σ.set 3 B) T tp tv lo hi := by
  obtain ⟨b, o, cs, x, h1, h2, h3, h4⟩ := e
  exact ⟨b, o, cs, x, h1, h2, cells_set3 h2 h3, h4⟩
theorem CellT.num (e : CellT σ T tp tv lo hi) : NumT T tv lo hi := by
  obtain ⟨b, o, cs, x, h1, h2, h3, h4, h5, h6, h7⟩ := e
  exact ⟨x, h6, h7⟩

theorem pE {w : AV} (e : EqT T t w) (h : t ≠ d := by decide) : EqT ((d, v) :: T) t w := EqT.put h e
theorem pN (e : NumT T t lo hi) (h : t ≠ d := by decide) : NumT ((d, v) :: T) t lo hi := NumT.put h e
theorem pR (e : RowB σ T t n lo hi) (h : t ≠ d := by decide) : RowB σ ((d, v) :: T) t n lo hi := RowB.put h e
theorem pRA (e : RowB σ T t n lo hi) (h : t ≠ d := by decide) : RowB (σ ++ τ) ((d, v) :: T) t n lo hi := RowB.put h e.app
theorem pRS (e : RowB σ T t n lo hi) (h : t ≠ d := by decide) : RowB (σ.set 3 B) ((d, v) :: T) t n lo hi := RowB.put h e.set
theorem pC (e : CellT σ T tp tv lo hi) (h : tp ≠ d := by decide) (h' : tv ≠ d := by decide) : CellT σ ((d, v) :: T) tp tv lo hi := CellT.put h h' e
theorem pCA (e : CellT σ T tp tv lo hi) (h : tp ≠ d := by decide) (h' : tv ≠ d := by decide) : CellT (σ ++ τ) ((d, v) :: T) tp tv lo hi := CellT.put h h' e.app
theorem pCS (e : CellT σ T tp tv lo hi) (h : tp ≠ d := by decide) (h' : tv ≠ d := by decide) : CellT (σ.set 3 B) ((d, v) :: T) tp tv lo hi := CellT.put h h' e.set

/-- An open load reads as it did. -/
theorem CellT.stab {P : Program} (e : CellT σ T tp tv lo hi) : wpO P (.ld (.t tp)) ⟨T, σ⟩ (kE T tv) := by
  obtain ⟨b, o, cs, x, h1, h2, h3, h4, h5, h6, h7⟩ := e
  simp only [h1, h6, onC_of h3, h5, not_true_eq_false, not_false_eq_true, decide_true, decide_false, Bool.not_true, Bool.not_false, false_implies, true_implies, and_true, true_and, Bool.false_eq_true, Bool.true_eq_false, implies_true, Bool.not_not, Classical.not_not, go_sem, Int.reduceToNat, List.take_nil, Nat.zero_mul, Nat.reduceEqDiff, Nat.reduceAdd, Nat.reduceLT, Nat.reduceLeDiff, Nat.reduceMul, ↓reduceIte, reduceCtorEq]
  exact h4

theorem mv_step {P : Program} {a : Nat} {r : List LI} {K : St → Prop} (h : ∀ v, v = Abs.look T a → wpF P r ⟨(d, v) :: T, σ⟩ K) : wpF P (⟨some d, none, .mv (.t a)⟩ :: r) ⟨T, σ⟩ K := by
  simp only [not_true_eq_false, not_false_eq_true, decide_true, decide_false, Bool.not_true, Bool.not_false, false_implies, true_implies, and_true, true_and, Bool.false_eq_true, Bool.true_eq_false, implies_true, Bool.not_not, Classical.not_not, go_sem, Int.reduceToNat, List.take_nil, Nat.zero_mul, Nat.reduceEqDiff, Nat.reduceAdd, Nat.reduceLT, Nat.reduceLeDiff, Nat.reduceMul, ↓reduceIte, reduceCtorEq]
  exact h _ rfl
theorem look_new : Abs.look ((d, v) :: T) d = v := by simp [look_cons]
theorem EqT.mv {a : Nat} {w : AV} (hv : v = Abs.look T a) (e : EqT T a w) : EqT ((d, v) :: T) d w := look_new.trans (hv.trans e)
theorem NumT.mv {a : Nat} (hv : v = Abs.look T a) (e : NumT T a lo hi) : NumT ((d, v) :: T) d lo hi := by
  obtain ⟨r, h1, h2⟩ := e
  exact ⟨r, EqT.mv hv h1, h2⟩
theorem NumT.new {r : Int} (h1 : lo ≤ r) (h2 : r ≤ hi) : NumT ((d, .i .i64 r) :: T) d lo hi := ⟨r, look_new, h1, h2⟩

/-- An element of a row is read. -/
theorem load_step {P : Program} {a b : Nat} {r : List LI} {K : St → Prop} {hi' : Int} (hr : RowB σ T a n lo hi) (hn : NumT T b 0 hi') (hh : hi' + 1 = n) (hpv : tp ≠ tv) (h : ∀ v p, CellT σ ((tv, v) :: (tp, p) :: T) tp tv lo hi → wpF P r ⟨(tv, v) :: (tp, p) :: T, σ⟩ K) :
    wpF P (⟨some tp, none, .ia 1 (.t a) (.t b)⟩ :: ⟨some tv, none, .ld (.t tp)⟩ :: r) ⟨T, σ⟩ K := by
  obtain ⟨q, cap, L, h1, h2, h3, h4, h5⟩ := hr
  obtain ⟨x, g1, g2, g3⟩ := hn
  obtain ⟨k, rfl⟩ := Int.eq_ofNat_of_zero_le g2
  have hk : k < L.length := by omega
  simp only [h1, g1, onC_of h4, rdI hk, lenI, Int.toNat_natCast, Nat.zero_add, not_true_eq_false, not_false_eq_true, decide_true, decide_false, Bool.not_true, Bool.not_false, false_implies, true_implies, and_true, true_and, Bool.false_eq_true, Bool.true_eq_false, implies_true, Bool.not_not, Classical.not_not, go_sem, Int.reduceToNat, List.take_nil, Nat.zero_mul, Nat.reduceEqDiff, Nat.reduceAdd, Nat.reduceLT, Nat.reduceLeDiff, Nat.reduceMul, ↓reduceIte, reduceCtorEq]
  refine ⟨by omega, hk, h (.i .i64 L[k]) (.p q k) ⟨q, k, encInt.row L, L[k], ?_, h3, h4, by rw [lenI]; exact hk, rdI hk, ?_, h5 _ (List.getElem_mem hk)⟩⟩
  · exact EqT.put hpv look_new
  · exact look_new
end

/-- The heap: the code, the set, the pattern, the reader, and what was laid since. -/
def HeapP (q : Nat) (A D E : AB) (C : List Nat) (c : Nat) (σ : List AB) : Prop := ∃ (p : Int) (τ : List AB), 0 ≤ p ∧ p ≤ 1000 + q ∧ σ = A :: D :: E :: .rw ty_spec_l20Rd [.sl 0 0 (C.take 2000).length c, .i .i64 p] 2 :: τ

section
variable {A D E : AB} {S : List Task} {L : List Job} {C : List Nat} {c c1 c2 : Nat} {σ : List AB} {T : List (Nat × AV)} {t q : Nat}
/-- What the heap begins with. -/
abbrev Heap3 (q : Nat) (C : List Nat) (c : Nat) (S : List Task) (c1 : Nat) (L : List Job) (c2 : Nat) (σ : List AB) : Prop := HeapP q (.ro (encByte.row C)) (.rw ty_impl_Task (encTask.row S) c1) (.rw ty_impl_Job (encJob.row L) c2) C c σ

theorem HeapP.app {τ : List AB} (h : HeapP q A D E C c σ) : HeapP q A D E C c (σ ++ τ) := by
  obtain ⟨p, τ', h1, h2, rfl⟩ := h
  exact ⟨p, τ' ++ τ, h1, h2, rfl⟩
theorem HeapP.four (h : HeapP q A D E C c σ) : 4 ≤ σ.length := by
  obtain ⟨p, τ', h1, h2, rfl⟩ := h
  simp

theorem pick_step {k : Int} (h : Heap3 q C c S c1 L c2 σ) (hq0 : q ≤ 1000) (hC : ∀ x ∈ C, x < 256) (ht : EqT T t (.p 3 0)) (hk : 1 ≤ k ∧ k ≤ 1000) {Q : AV → List AB → Prop}
    (hq : ∀ (r : Int) (B : AB), 0 ≤ r → r ≤ k - 1 → Heap3 (q + 1) C c S c1 L c2 (σ.set 3 B) → Q (.i .i64 r) (σ.set 3 B)) : wpO Try.prog (.call (.k (.fn n_spec_l20Rd_pick [] [])) [.t t, .k (.i .i64 k)]) ⟨T, σ⟩ Q := by
  obtain ⟨p, τ, h1, h2, rfl⟩ := h
  simp only [ht, not_true_eq_false, not_false_eq_true, decide_true, decide_false, Bool.not_true, Bool.not_false, false_implies, true_implies, and_true, true_and, Bool.false_eq_true, Bool.true_eq_false, implies_true, Bool.not_not, Classical.not_not, go_sem, Int.reduceToNat, List.take_nil, Nat.zero_mul, Nat.reduceEqDiff, Nat.reduceAdd, Nat.reduceLT, Nat.reduceLeDiff, Nat.reduceMul, ↓reduceIte, reduceCtorEq]
  obtain ⟨cs, e1, e2⟩ := (Rdr.take (C := C) (c := c) (p := p) (τ := [])).win
  refine spec_l20Rd_pick_ (n := 3) (p := p) (m := 0) (o := 0) (B := C.take 2000) (c := c) ?_ (Code.take hC) (by omega) k (by omega) fun r r1 r2 _ => ?_
  · exact ⟨rfl, by decide, cs, e1, e2⟩
  ·
    have r3 := r2 (by omega)
    exact hq r (.rw ty_spec_l20Rd [.sl 0 0 (C.take 2000).length c, .i .i64 (p + 1)] 2) r1 (by omega) ⟨p + 1, τ, by omega, by omega, rfl⟩

theorem row3_step {a d : Nat} {m hi : Int} (h : Heap3 q C c S c1 L c2 σ) (hn : NumT T a 0 hi) (hm : 0 ≤ m ∧ hi ≤ m) {Q : AV → List AB → Prop}
    (hq : ∀ (v : AV) (B : AB), RowB (σ ++ [B]) ((d, v) :: T) d 3 (-1) m → Heap3 q C c S c1 L c2 (σ ++ [B]) → Q v (σ ++ [B])) : wpO Try.prog (.bsl ty_int [.i .i64 0] 3 [(0, 1, .t a), (1, 1, .k (.i .i64 (-1))), (2, 1, .k (.i .i64 m))]) ⟨T, σ⟩ Q := by
  obtain ⟨r, g1, g2, g3⟩ := hn
  have h4 := h.four
  have hb := hq (.sl σ.length 0 3 3) (.rw ty_int (encInt.row [r, -1, m]) 3) ⟨σ.length, 3, [r, -1, m], by simp [look_cons], rfl, h4, by simp [cellsOf, at_new0], fun x hx => by
    simp only [List.mem_cons, List.not_mem_nil, or_false] at hx
    omega⟩ h.app
  simp only [g1, not_true_eq_false, not_false_eq_true, decide_true, decide_false, Bool.not_true, Bool.not_false, false_implies, true_implies, and_true, true_and, Bool.false_eq_true, Bool.true_eq_false, implies_true, Bool.not_not, Classical.not_not, go_sem, Int.reduceToNat, List.take_nil, Nat.zero_mul, Nat.reduceEqDiff, Nat.reduceAdd, Nat.reduceLT, Nat.reduceLeDiff, Nat.reduceMul, ↓reduceIte, reduceCtorEq]
  exact hb

theorem row6_step {d : Nat} (h : Heap3 q C c S c1 L c2 σ) {Q : AV → List AB → Prop}
    (hq : ∀ (v : AV) (B : AB), RowB (σ ++ [B]) ((d, v) :: T) d 6 0 2 → Heap3 q C c S c1 L c2 (σ ++ [B]) → Q v (σ ++ [B])) :
    wpO Try.prog (.bsl ty_int [.i .i64 0] 6 [(0, 1, .k (.i .i64 0)), (1, 1, .k (.i .i64 0)), (2, 1, .k (.i .i64 0)), (3, 1, .k (.i .i64 0)), (4, 1, .k (.i .i64 1)), (5, 1, .k (.i .i64 2))]) ⟨T, σ⟩ Q := by
  have h4 := h.four
  have hb := hq (.sl σ.length 0 6 6) (.rw ty_int (encInt.row [0, 0, 0, 0, 1, 2]) 6) ⟨σ.length, 6, [0, 0, 0, 0, 1, 2], by simp [look_cons], rfl, h4, by simp [cellsOf, at_new0], fun x hx => by
    simp only [List.mem_cons, List.not_mem_nil, or_false] at hx
    omega⟩ h.app
  simp only [not_true_eq_false, not_false_eq_true, decide_true, decide_false, Bool.not_true, Bool.not_false, false_implies, true_implies, and_true, true_and, Bool.false_eq_true, Bool.true_eq_false, implies_true, Bool.not_not, Classical.not_not, go_sem, Int.reduceToNat, List.take_nil, Nat.zero_mul, Nat.reduceEqDiff, Nat.reduceAdd, Nat.reduceLT, Nat.reduceLeDiff, Nat.reduceMul, ↓reduceIte, reduceCtorEq]
  exact hb
/-! Steps of a plan. -/
variable {K : St → Prop} {i d : Nat} {pend : List (Nat × Option Nat × Nat)} {ix : List Nat} {cs : List LI} {p : Plan}
theorem fin_step {s : St} (h : wpPlan Try.prog p s K) : wpF Try.prog [] s (kN Try.prog p K) := by
  rw [wpF_nil, kN_app]; exact h
theorem aP {k : Int} (h : Heap3 q C c S c1 L c2 σ) (hC : ∀ x ∈ C, x < 256) (ht : EqT T t (.p 3 0)) (hq : ∀ (r : Int) (B : AB), 0 ≤ r → r ≤ k - 1 → Heap3 (q + 1) C c S c1 L c2 (σ.set 3 B) → stabs Try.prog ((d, .i .i64 r) :: T) (σ.set 3 B) pend ∧ wpF Try.prog cs ⟨(d, .i .i64 r) :: T, σ.set 3 B⟩ (kN Try.prog p K))
    (hq0 : q ≤ 1000 := by decide) (hk : 1 ≤ k ∧ k ≤ 1000 := by decide) : wpPlan Try.prog (.one i ⟨some d, none, .call (.k (.fn n_spec_l20Rd_pick [] [])) [.t t, .k (.i .i64 k)]⟩ pend ix cs p) ⟨T, σ⟩ K := by
  rw [wpPlan_one]
  refine pick_step h hq0 hC ht hk fun r B r0 r1 hp => ?_
  rw [kH_some]; exact hq r B r0 r1 hp
theorem a3 {a : Nat} {m hi : Int} (h : Heap3 q C c S c1 L c2 σ) (hn : NumT T a 0 hi) (hq : ∀ (v : AV) (B : AB), RowB (σ ++ [B]) ((d, v) :: T) d 3 (-1) m → Heap3 q C c S c1 L c2 (σ ++ [B]) → stabs Try.prog ((d, v) :: T) (σ ++ [B]) pend ∧ wpF Try.prog cs ⟨(d, v) :: T, σ ++ [B]⟩ (kN Try.prog p K))
    (hm : 0 ≤ m ∧ hi ≤ m := by decide) : wpPlan Try.prog (.one i ⟨some d, none, .bsl ty_int [.i .i64 0] 3 [(0, 1, .t a), (1, 1, .k (.i .i64 (-1))), (2, 1, .k (.i .i64 m))]⟩ pend ix cs p) ⟨T, σ⟩ K := by
  rw [wpPlan_one]
  refine row3_step (d := d) h hn hm fun v B h0 hp => ?_
  rw [kH_some]; exact hq v B h0 hp
theorem a6 (h : Heap3 q C c S c1 L c2 σ) (hq : ∀ (v : AV) (B : AB), RowB (σ ++ [B]) ((d, v) :: T) d 6 0 2 → Heap3 q C c S c1 L c2 (σ ++ [B]) → stabs Try.prog ((d, v) :: T) (σ ++ [B]) pend ∧ wpF Try.prog cs ⟨(d, v) :: T, σ ++ [B]⟩ (kN Try.prog p K)) :
    wpPlan Try.prog (.one i ⟨some d, none, .bsl ty_int [.i .i64 0] 6 [(0, 1, .k (.i .i64 0)), (1, 1, .k (.i .i64 0)), (2, 1, .k (.i .i64 0)), (3, 1, .k (.i .i64 0)), (4, 1, .k (.i .i64 1)), (5, 1, .k (.i .i64 2))]⟩ pend ix cs p) ⟨T, σ⟩ K := by
  rw [wpPlan_one]
  refine row6_step (d := d) h fun v B h0 hp => ?_
  rw [kH_some]; exact hq v B h0 hp
end
end Go.Proofs.Ytdmoafmgeipenaa
