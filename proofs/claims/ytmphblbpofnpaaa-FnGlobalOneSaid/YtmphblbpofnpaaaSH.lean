import Derived.Test.YtmphblbpofnpaaaS7
import Derived.Test.YtmphblbpofnpaaaC4
import Derived.Test.YtmphblbpofnpaaaM47
import Derived.Test.YtmphblbpofnpaaaSG
import Derived.Test.YtmphblbpofnpaaaS5
namespace Go.Proofs.Ytmphblbpofnpaaa
open Go.Abs Go.Ds
set_option linter.unusedSimpArgs false
set_option linter.unusedVariables false
set_option maxRecDepth 20000
set_option maxHeartbeats 2000000
end Go.Proofs.Ytmphblbpofnpaaa
/- Contracts: global earliest deadline first, of the reference: what a run holds in memory. -/
namespace Go.Proofs.Ytmphblbpofnpaaa
open Go.Abs Go.Ds
set_option linter.unusedSimpArgs false
set_option linter.unusedVariables false
set_option maxRecDepth 20000
set_option maxHeartbeats 2000000
structure QS where
  lf : List Int
  fin : List Int
  R : List (List Int)
  n : Nat
def vN (p c : Nat → Nat) (i n : Nat) : AV := if n = 0 then .sn else .sl (p i) 0 n (c i)
def runC (p c : Nat → Nat) (R : List (List Int)) (n : Nat) : List AV := (List.range n).map fun k => .sl (p (k + 4)) 0 (gRw R k).length (c (k + 4))
def SB (q : QS) (p c : Nat → Nat) : Nat → Option AB
  | 0 => some (.rw ty_int (encInt.row q.lf) (c 0 * 1))
  | 1 => none
  | 2 => if q.n = 0 then none else some (.rw ty_sl_int (runC p c q.R q.n) (c 2 * 1))
  | 3 => if q.fin = [] then none else some (.rw ty_int (encInt.row q.fin) (c 3 * 1))
  | k + 4 => if k < q.R.length then some (.rw ty_int (encInt.row (gRw q.R k)) (c (k + 4) * 1)) else none
def outS (q : QS) (p c : Nat → Nat) : List AV := [vN p c 2 q.n, vN p c 3 q.fin.length]
structure GS (σ : List AB) (q : QS) (H : List AB) (p c : Nat → Nat) : Prop where
  base : Base σ H 2
  res : H[σ.length]? = some (.rw ty_impl_GlobalRun [.sn, .sn] 2)
  out : H[σ.length + 1]? = some (.rw ty_impl_GlobalRun (outS q p c) 2)
  lay : Lay (σ.length + 2) H p (SB q p c)
section
variable {σ H : List AB} {q q' : QS} {p c : Nat → Nat}
theorem GS.junk (h : GS σ q H p c) (τ : List AB) : GS σ q (H ++ τ) p c := ⟨h.base.app τ, at_old h.res τ, at_old h.out τ, h.lay.junk τ⟩
theorem GS.upd (h : GS σ q H p c) {i : Nat} {b b' : AB} (hi : SB q p c i = some b) (ho : outS q' p c = outS q p c) (hB : ∀ k x, SB q' p c k = some x → up (SB q p c) i (some b') k = some x) : GS σ q' (H.set (p i) b') p c := by
  have hg := h.lay.ge hi
  exact ⟨h.base.set (by omega) _, by rw [List.getElem?_set_ne (by omega)]; exact h.res, by rw [List.getElem?_set_ne (by omega), ho]; exact h.out, h.lay.upd hi b' hB⟩
/-- A heap whose labelled part is right; what is answered is then written. -/
structure GS0 (σ : List AB) (q : QS) (H : List AB) (p c : Nat → Nat) : Prop where
  base : Base σ H 2
  res : H[σ.length]? = some (.rw ty_impl_GlobalRun [.sn, .sn] 2)
  out : ∃ cs, H[σ.length + 1]? = some (.rw ty_impl_GlobalRun cs 2)
  lay : Lay (σ.length + 2) H p (SB q p c)
theorem GS0.same (h : GS0 σ q H p c) (ho : H[σ.length + 1]? = some (.rw ty_impl_GlobalRun (outS q p c) 2)) : GS σ q H p c := ⟨h.base, h.res, ho, h.lay⟩
theorem GS0.put (h : GS0 σ q H p c) : GS σ q (H.set (σ.length + 1) (.rw ty_impl_GlobalRun (outS q p c) 2)) p c :=
  ⟨h.base.set (by omega) _, by rw [List.getElem?_set_ne (by omega)]; exact h.res, List.getElem?_set_self (by have := h.base.2; omega), h.lay.low (by omega) _⟩
theorem GS.grow (h : GS σ q H p c) {i : Nat} {b : AB} (hi : SB q p c i = some b) (τ : List AB) (new : AB) {n : Nat} {c' : Nat → Nat} (hn : n = H.length + τ.length) (hB : ∀ k x, SB q' (up p i n) c' k = some x → up (SB q p c) i (some new) k = some x) :
    GS0 σ q' ((H ++ τ).set (p i) .dead ++ [new]) (up p i n) c' ∧ ((H ++ τ).set (p i) .dead ++ [new])[σ.length + 1]? = some (.rw ty_impl_GlobalRun (outS q p c) 2) := by
  have hg := h.lay.ge hi
  have e : ((H ++ τ).set (p i) .dead ++ [new])[σ.length + 1]? = some (.rw ty_impl_GlobalRun (outS q p c) 2) := by
    refine at_old ?_ _
    rw [List.getElem?_set_ne (by omega)]; exact at_old h.out τ
  refine ⟨⟨((h.base.app τ).set (by omega) _).app _, at_old ?_ _, ⟨_, e⟩, h.lay.grow h.base.2 hi τ new hn hB⟩, e⟩
  rw [List.getElem?_set_ne (by omega)]; exact at_old h.res τ
theorem GS.born (h : GS σ q H p c) {i : Nat} (hi : SB q p c i = none) (τ : List AB) (new : AB) {n : Nat} {c' : Nat → Nat} (hn : n = H.length + τ.length) (hB : ∀ k x, SB q' (up p i n) c' k = some x → up (SB q p c) i (some new) k = some x) :
    GS0 σ q' ((H ++ τ) ++ [new]) (up p i n) c' ∧ ((H ++ τ) ++ [new])[σ.length + 1]? = some (.rw ty_impl_GlobalRun (outS q p c) 2) :=
  ⟨⟨(h.base.app τ).app _, at_old (at_old h.res τ) _, ⟨_, at_old (at_old h.out τ) _⟩, h.lay.born h.base.2 hi τ new hn hB⟩, at_old (at_old h.out τ) _⟩
theorem vN_up (p c : Nat → Nat) {i j : Nat} (n a b : Nat) (h : j ≠ i) : vN (up p i a) (up c i b) j n = vN p c j n := by unfold vN; rw [up_ne _ _ h, up_ne _ _ h]
theorem runC_congr {p p' c c' : Nat → Nat} {R R' : List (List Int)} {n : Nat} (h : ∀ k, k < n → p' (k + 4) = p (k + 4) ∧ c' (k + 4) = c (k + 4) ∧ (gRw R' k).length = (gRw R k).length) : runC p' c' R' n = runC p c R n :=
  List.map_congr_left fun k hk => by
    obtain ⟨h1, h2, h3⟩ := h k (List.mem_range.1 hk)
    rw [h1, h2, h3]
theorem GS.b0 (h : GS σ q H p c) : H[p 0]? = some (.rw ty_int (encInt.row q.lf) (c 0 * 1)) := h.lay.at (i := 0) rfl
theorem GS.b2 (h : GS σ q H p c) (hn : q.n ≠ 0) : H[p 2]? = some (.rw ty_sl_int (runC p c q.R q.n) (c 2 * 1)) := h.lay.at (i := 2) (if_neg hn)
theorem GS.setFin (h : GS σ q H p c) (hn : q.fin ≠ []) (l : List Int) (hl : l.length = q.fin.length) : GS σ { q with fin := l } (H.set (p 3) (.rw ty_int (encInt.row l) (c 3 * 1))) p c := by
  have hne2 : l ≠ [] := fun e => hn (List.eq_nil_of_length_eq_zero (by rw [← hl, e]; rfl))
  refine h.upd (i := 3) (if_neg hn) (by simp [outS, hl]) fun k x hk => ?_
  by_cases e : k = 3
  · subst e; rw [up_eq]; simpa [SB, hne2] using hk
  · rw [up_ne _ _ e, ← hk]
    unfold SB
    split <;> first | rfl | exact absurd rfl e
theorem GS.row (h : GS σ q H p c) (hn : q.n ≤ q.R.length) (r : List Int) (cap : Nat) : GS σ { q with R := q.R ++ [r] } (H ++ [.rw ty_int (encInt.row r) (cap * 1)]) (up p (q.R.length + 4) H.length) (up c (q.R.length + 4) cap) := by
  have hb := h.born (i := q.R.length + 4) (q' := { q with R := q.R ++ [r] }) (c' := up c (q.R.length + 4) cap) (if_neg (Nat.lt_irrefl _)) [] (.rw ty_int (encInt.row r) (cap * 1)) (n := H.length) (by simp) fun k x hk => by
    by_cases e : k = q.R.length + 4
    · subst e; rw [up_eq]
      simpa [SB, gRw_new, up_eq] using hk
    · rw [up_ne _ _ e, ← hk]
      match k, e with
      | 0, e | 1, e | 3, e => simp only [SB, up_ne _ _ e]
      | 2, e =>
        have : runC (up p (q.R.length + 4) H.length) (up c (q.R.length + 4) cap) (q.R ++ [r]) q.n = runC p c q.R q.n := runC_congr fun k hk => ⟨up_ne _ _ (by omega), up_ne _ _ (by omega), by rw [gRw_old (by omega)]⟩
        simp only [SB, up_ne _ _ e, this]
      | k + 4, e =>
        have hk : k ≠ q.R.length := fun g => e (by rw [g])
        by_cases h1 : k < q.R.length
        · have h2 : k < (q.R ++ [r]).length := by rw [List.length_append]; omega
          simp only [SB, h1, h2, if_true, up_ne _ _ e, gRw_old h1]
        · have h2 : ¬ k < (q.R ++ [r]).length := by rw [List.length_append, List.length_cons, List.length_nil]; omega
          simp only [SB, h1, h2, if_false]
  rw [List.append_nil] at hb
  refine hb.1.same ?_
  rw [hb.2]
  unfold outS
  rw [vN_up p c _ _ _ (by omega), vN_up p c _ _ _ (by omega)]
end
end Go.Proofs.Ytmphblbpofnpaaa
/- Contracts: RunGlobal of the reference. -/
namespace Go.Proofs.Ytmphblbpofnpaaa
open Go.Abs Go.Ds
set_option linter.unusedSimpArgs false
set_option linter.unusedVariables false
set_option maxRecDepth 20000
set_option maxHeartbeats 8000000
end Go.Proofs.Ytmphblbpofnpaaa
