import Derived.Test.YtfngcejaphhmmaaS87
namespace Go.Proofs.Ytfngcejaphhmmaa
open Go.Abs Go.Ds
set_option linter.unusedSimpArgs false
set_option linter.unusedVariables false
set_option maxRecDepth 20000
set_option maxHeartbeats 2000000
def Keeps (a p : Nat) (σ σ' : List AB) (p' : Nat) : Prop := σ.length ≤ σ'.length ∧ (p' = p ∨ σ.length ≤ p') ∧ ∀ i, i < σ.length → i ≠ a → i ≠ p → σ'[i]? = σ[i]?
theorem Keeps.trans {a p p1 p2 : Nat} {σ σ1 σ2 : List AB} (h : Keeps a p σ σ1 p1) (g : Keeps a p1 σ1 σ2 p2) : Keeps a p σ σ2 p2 := by
  obtain ⟨h1, h2, h3⟩ := h
  obtain ⟨g1, g2, g3⟩ := g
  refine ⟨by omega, by omega, fun i hi ha hp => ?_⟩
  rw [g3 i (by omega) ha (by omega), h3 i hi ha hp]
theorem Keeps.app {a p : Nat} {σ : List AB} (τ : List AB) : Keeps a p σ (σ ++ τ) p := ⟨by rw [List.length_append]; omega, .inl rfl, fun i hi _ _ => List.getElem?_append_left hi⟩
theorem Keeps.back {a p p1 : Nat} {σ τ σ1 : List AB} (g : Keeps a p (σ ++ τ) σ1 p1) : Keeps a p σ σ1 p1 := Keeps.trans (Keeps.app τ) g
/-- A function value tells the choices of a worst execution. -/
structure Chooser (f : Nat) (first caps : List (Nat × Nat)) (P : List Nd) (W : List Int) (a : Nat) (Hp : List Int → List AB → Nat → Prop) : Prop where
  prog : ∀ pre σ p, Hp pre σ p → cellsOf σ 0 = some (encNd.row P)
  lt : ∀ pre σ p, Hp pre σ p → a < σ.length ∧ p < σ.length ∧ 0 ≠ a ∧ 0 ≠ p
  app : ∀ pre σ p τ, Hp pre σ p → Hp pre (σ ++ τ) p
  go : ∀ pre σ p (k : Nat) (many : Int) (K : AV → List AB → Prop), Hp pre σ p → k < P.length → ((gN P k).K = 3 ∧ many = 2 ∨ (gN P k).K = 4 ∧ many = (gN P k).Bd + 1) → (pre ++ [wc P k]) <+: W → (∀ σ' p', Hp (pre ++ [wc P k]) σ' p' → Keeps a p σ σ' p' → K (.i .i64 (wc P k)) σ') → CallWp Try.prog f (pAV first ++ [.i .i64 k, .i .i64 many] ++ pAV caps) σ K
theorem pre_left {A B W : List Int} (h : (A ++ B) <+: W) : A <+: W := List.IsPrefix.trans (List.prefix_append A B) h
theorem rep_pre {m n : Nat} {L : List Int} (h : m ≤ n) : (List.replicate m L).flatten <+: (List.replicate n L).flatten := by
  have e : List.replicate n L = List.replicate m L ++ List.replicate (n - m) L := by rw [List.replicate_append_replicate]; congr 1; omega
  rw [e, List.flatten_append]
  exact List.prefix_append _ _
theorem impl_execute_ {f : Nat} {first caps : List (Nat × Nat)} {P : List Nd} {W : List Int} {a : Nat} {Hp : List Int → List AB → Nat → Prop} (ch : Chooser f first caps P W a Hp) (h : nodesOk P) (hl : P.length ≤ 12) (c : Nat) : ∀ n k : Nat, k < n → k < P.length → cstA true P k ≤ 600 →
    ∀ pre σ p (K : AV → List AB → Prop), Hp pre σ p → (pre ++ wch P k) <+: W → (∀ σ' p', Hp (pre ++ wch P k) σ' p' → Keeps a p σ σ' p' → K (.i .i64 (cstA true P k)) σ') → CallWp Try.prog n_impl_execute [.sl 0 0 P.length c, .i .i64 k, .fn f first caps] σ K
  | 0, k, hkn, _, _, _, _, _, _, _, _, _ => absurd hkn (by omega)
  | n + 1, k, hkn, hk, hc, pre, σ, p, K, hp, hW, hK => by
    have ih := fun (b : Int) (h0 : 0 ≤ b) (h1 : b.toNat < n) (h2 : b.toNat < P.length) (h3 : cstA true P b.toNat ≤ 600) => (show ∀ pre σ p (K : AV → List AB → Prop), Hp pre σ p → (pre ++ wch P b.toNat) <+: W → (∀ σ' p', Hp (pre ++ wch P b.toNat) σ' p' → Keeps a p σ σ' p' → K (.i .i64 (cstA true P b.toNat)) σ') → CallWp Try.prog n_impl_execute [.sl 0 0 P.length c, .i .i64 b, .fn f first caps] σ K by
      have := impl_execute_ ch h hl c n b.toNat h1 h2 h3
      rwa [show ((b.toNat : Nat) : Int) = b by omega] at this)
    have ho := h k hk
    have kd := kid ho
    have ks := kids_small h hk hc
    have ps := fun (b : Nat) (hb : b < P.length) => cost_pos h b b (Nat.le_refl _) hb
    have hj := ch.prog _ _ _ hp
    obtain ⟨la, lp, na, np⟩ := ch.lt _ _ _ hp
    refine call_impl_execute (by simp) ?_
    simp only [c_impl_execute, onC_of hj, winN hk, encN, lenN, List.append_assoc, at_new, at_new0, set_new, set_new0, not_true_eq_false, not_false_eq_true, decide_true, decide_false, Bool.not_true, Bool.not_false, false_implies, true_implies, and_true, true_and, Bool.false_eq_true, Bool.true_eq_false, implies_true, Bool.not_not, Classical.not_not, go_sem, Int.reduceToNat, List.take_nil, Nat.zero_mul, Nat.reduceEqDiff, Nat.reduceAdd, Nat.reduceLT, Nat.reduceLeDiff, Nat.reduceMul, ↓reduceIte, reduceCtorEq]
    refine ⟨by omega, by omega, ?_⟩
    have ho' := ho
    unfold ndOk at ho
    have hp1 := ch.app _ _ _ [AB.rw ty_impl_Node [.i .i64 (gN P k).K, .i .i64 (gN P k).C, .i .i64 (gN P k).A, .i .i64 (gN P k).B, .i .i64 (gN P k).Bd] 5] hp
    have nd : ∀ {σ' : List AB} {p' : Nat}, Keeps a p (σ ++ [AB.rw ty_impl_Node [.i .i64 (gN P k).K, .i .i64 (gN P k).C, .i .i64 (gN P k).A, .i .i64 (gN P k).B, .i .i64 (gN P k).Bd] 5]) σ' p' → cellsOf σ' σ.length = some [.i .i64 (gN P k).K, .i .i64 (gN P k).C, .i .i64 (gN P k).A, .i .i64 (gN P k).B, .i .i64 (gN P k).Bd] := by
      intro σ' p' g
      rw [cellsOf, g.2.2 σ.length (by simp) (by omega) (by omega), at_new0]; rfl
    rcases ho with ho | ho | ho | ho
    · simp only [ho.1, Int.reduceEq, List.append_assoc, at_new, at_new0, set_new, set_new0, not_true_eq_false, not_false_eq_true, decide_true, decide_false, Bool.not_true, Bool.not_false, false_implies, true_implies, and_true, true_and, Bool.false_eq_true, Bool.true_eq_false, implies_true, Bool.not_not, Classical.not_not, go_sem, Int.reduceToNat, List.take_nil, Nat.zero_mul, Nat.reduceEqDiff, Nat.reduceAdd, Nat.reduceLT, Nat.reduceLeDiff, Nat.reduceMul, ↓reduceIte, reduceCtorEq]
      have e : wch P k = [] := wch_one ho.1
      have := hK (σ ++ [AB.rw ty_impl_Node [.i .i64 (gN P k).K, .i .i64 (gN P k).C, .i .i64 (gN P k).A, .i .i64 (gN P k).B, .i .i64 (gN P k).Bd] 5]) p (by rw [e, List.append_nil]; exact hp1) (Keeps.app _)
      rw [cost_one true ho.1, ho.1] at this
      exact Fin.plain this
    · have e := wch_two h hk ho.1
      obtain ⟨a1, b1⟩ := kd.1 ho.1
      obtain ⟨a2, b2⟩ := ks.1 ho.1
      obtain ⟨e1, _, _⟩ := cost_two true ho' ho.1
      have pa := ps (gN P k).A.toNat (by omega)
      have pb := ps (gN P k).B.toNat (by omega)
      rw [e, ← List.append_assoc] at hW hK
      rw [e1] at hK
      rw [ho.1] at nd hp1
      simp only [ho.1, Int.reduceEq, List.append_assoc, at_new, at_new0, set_new, set_new0, not_true_eq_false, not_false_eq_true, decide_true, decide_false, Bool.not_true, Bool.not_false, false_implies, true_implies, and_true, true_and, Bool.false_eq_true, Bool.true_eq_false, implies_true, Bool.not_not, Classical.not_not, go_sem, Int.reduceToNat, List.take_nil, Nat.zero_mul, Nat.reduceEqDiff, Nat.reduceAdd, Nat.reduceLT, Nat.reduceLeDiff, Nat.reduceMul, ↓reduceIte, reduceCtorEq]
      refine ih _ (by omega) (by omega) (by omega) a2 pre _ p _ hp1 (pre_left hW) fun σ1 p1 g1 k1 => ?_
      have n1 := nd k1
      simp only [onC_of n1, not_true_eq_false, not_false_eq_true, decide_true, decide_false, Bool.not_true, Bool.not_false, false_implies, true_implies, and_true, true_and, Bool.false_eq_true, Bool.true_eq_false, implies_true, Bool.not_not, Classical.not_not, go_sem, Int.reduceToNat, List.take_nil, Nat.zero_mul, Nat.reduceEqDiff, Nat.reduceAdd, Nat.reduceLT, Nat.reduceLeDiff, Nat.reduceMul, ↓reduceIte, reduceCtorEq]
      refine ih _ (by omega) (by omega) (by omega) b2 (pre ++ wch P (gN P k).A.toNat) _ p1 _ g1 hW fun σ2 p2 g2 k2 => ?_
      simp only [not_true_eq_false, not_false_eq_true, decide_true, decide_false, Bool.not_true, Bool.not_false, false_implies, true_implies, and_true, true_and, Bool.false_eq_true, Bool.true_eq_false, implies_true, Bool.not_not, Classical.not_not, go_sem, Int.reduceToNat, List.take_nil, Nat.zero_mul, Nat.reduceEqDiff, Nat.reduceAdd, Nat.reduceLT, Nat.reduceLeDiff, Nat.reduceMul, ↓reduceIte, reduceCtorEq]
      exact ⟨by omega, Fin.plain (hK _ _ g2 ((Keeps.back k1).trans k2))⟩
    · have e := wch_three h hk ho.1
      obtain ⟨a1, b1⟩ := kd.2.1 ho.1
      obtain ⟨a2, b2⟩ := ks.2.1 ho.1
      have wt := wc_time h hk ho.1
      have pa := ps (gN P k).A.toNat (by omega)
      have pb := ps (gN P k).B.toNat (by omega)
      have w01 : wc P k = 0 ∨ wc P k = 1 := by omega
      have e2 : pre ++ wch P k = (pre ++ [wc P k]) ++ (if wc P k = 0 then wch P (gN P k).A.toNat else wch P (gN P k).B.toNat) := by rw [e, List.append_assoc]; rfl
      rw [e2] at hW hK
      rw [ho.1] at nd hp1
      simp only [ho.1, Int.reduceEq, List.append_assoc, at_new, at_new0, set_new, set_new0, not_true_eq_false, not_false_eq_true, decide_true, decide_false, Bool.not_true, Bool.not_false, false_implies, true_implies, and_true, true_and, Bool.false_eq_true, Bool.true_eq_false, implies_true, Bool.not_not, Classical.not_not, go_sem, Int.reduceToNat, List.take_nil, Nat.zero_mul, Nat.reduceEqDiff, Nat.reduceAdd, Nat.reduceLT, Nat.reduceLeDiff, Nat.reduceMul, ↓reduceIte, reduceCtorEq]
      have go' := fun K => ch.go pre _ p k 2 K hp1 hk (.inl ⟨ho.1, rfl⟩) (pre_left hW)
      simp only [List.append_assoc, List.cons_append, List.nil_append] at go'
      refine go' _ fun σ1 p1 g1 k1 => ?_
      have n1 := nd k1
      simp only [not_true_eq_false, not_false_eq_true, decide_true, decide_false, Bool.not_true, Bool.not_false, false_implies, true_implies, and_true, true_and, Bool.false_eq_true, Bool.true_eq_false, implies_true, Bool.not_not, Classical.not_not, go_sem, Int.reduceToNat, List.take_nil, Nat.zero_mul, Nat.reduceEqDiff, Nat.reduceAdd, Nat.reduceLT, Nat.reduceLeDiff, Nat.reduceMul, ↓reduceIte, reduceCtorEq]
      rcases wt with ⟨w0, w1, w2⟩ | ⟨w0, w1, w2⟩
      · rw [w0, if_pos rfl] at hW hK
        rw [w0] at g1
        rw [w1] at hK
        simp only [w0, Int.reduceEq, onC_of n1, not_true_eq_false, not_false_eq_true, decide_true, decide_false, Bool.not_true, Bool.not_false, false_implies, true_implies, and_true, true_and, Bool.false_eq_true, Bool.true_eq_false, implies_true, Bool.not_not, Classical.not_not, go_sem, Int.reduceToNat, List.take_nil, Nat.zero_mul, Nat.reduceEqDiff, Nat.reduceAdd, Nat.reduceLT, Nat.reduceLeDiff, Nat.reduceMul, ↓reduceIte, reduceCtorEq]
        refine ih _ (by omega) (by omega) (by omega) a2 _ _ p1 _ g1 hW fun σ2 p2 g2 k2 => ?_
        have n2 := nd (k1.trans k2)
        simp only [onC_of n2, not_true_eq_false, not_false_eq_true, decide_true, decide_false, Bool.not_true, Bool.not_false, false_implies, true_implies, and_true, true_and, Bool.false_eq_true, Bool.true_eq_false, implies_true, Bool.not_not, Classical.not_not, go_sem, Int.reduceToNat, List.take_nil, Nat.zero_mul, Nat.reduceEqDiff, Nat.reduceAdd, Nat.reduceLT, Nat.reduceLeDiff, Nat.reduceMul, ↓reduceIte, reduceCtorEq]
        exact ⟨by omega, Fin.plain (hK _ _ g2 ((Keeps.back k1).trans k2))⟩
      · rw [w0, if_neg (by decide)] at hW hK
        rw [w0] at g1
        rw [w1] at hK
        simp only [w0, Int.reduceEq, onC_of n1, not_true_eq_false, not_false_eq_true, decide_true, decide_false, Bool.not_true, Bool.not_false, false_implies, true_implies, and_true, true_and, Bool.false_eq_true, Bool.true_eq_false, implies_true, Bool.not_not, Classical.not_not, go_sem, Int.reduceToNat, List.take_nil, Nat.zero_mul, Nat.reduceEqDiff, Nat.reduceAdd, Nat.reduceLT, Nat.reduceLeDiff, Nat.reduceMul, ↓reduceIte, reduceCtorEq]
        refine ih _ (by omega) (by omega) (by omega) b2 _ _ p1 _ g1 hW fun σ2 p2 g2 k2 => ?_
        have n2 := nd (k1.trans k2)
        simp only [onC_of n2, not_true_eq_false, not_false_eq_true, decide_true, decide_false, Bool.not_true, Bool.not_false, false_implies, true_implies, and_true, true_and, Bool.false_eq_true, Bool.true_eq_false, implies_true, Bool.not_not, Classical.not_not, go_sem, Int.reduceToNat, List.take_nil, Nat.zero_mul, Nat.reduceEqDiff, Nat.reduceAdd, Nat.reduceLT, Nat.reduceLeDiff, Nat.reduceMul, ↓reduceIte, reduceCtorEq]
        exact ⟨by omega, Fin.plain (hK _ _ g2 ((Keeps.back k1).trans k2))⟩
    · have e := wch_four h hk ho.1
      have a1 := kd.2.2 ho.1
      have a2 := ks.2.2 ho.1
      obtain ⟨e1, _, c0, d0, d1⟩ := cost_four ho' ho.1
      have e2 : pre ++ wch P k = (pre ++ [wc P k]) ++ (List.replicate (gN P k).Bd.toNat (wch P (gN P k).A.toNat)).flatten := by rw [e, List.append_assoc]; rfl
      have wb : wc P k = (gN P k).Bd := by rw [wc, if_neg (by omega)]
      rw [e2] at hW hK
      rw [ho.1] at nd hp1
      simp only [ho.1, Int.reduceEq, List.append_assoc, at_new, at_new0, set_new, set_new0, not_true_eq_false, not_false_eq_true, decide_true, decide_false, Bool.not_true, Bool.not_false, false_implies, true_implies, and_true, true_and, Bool.false_eq_true, Bool.true_eq_false, implies_true, Bool.not_not, Classical.not_not, go_sem, Int.reduceToNat, List.take_nil, Nat.zero_mul, Nat.reduceEqDiff, Nat.reduceAdd, Nat.reduceLT, Nat.reduceLeDiff, Nat.reduceMul, ↓reduceIte, reduceCtorEq]
      have go' := fun K => ch.go pre _ p k ((gN P k).Bd + 1) K hp1 hk (.inr ⟨ho.1, rfl⟩) (pre_left hW)
      simp only [List.append_assoc, List.cons_append, List.nil_append] at go'
      refine ⟨by omega, go' _ fun σ1 p1 g1 k1 => ?_⟩
      simp only [not_true_eq_false, not_false_eq_true, decide_true, decide_false, Bool.not_true, Bool.not_false, false_implies, true_implies, and_true, true_and, Bool.false_eq_true, Bool.true_eq_false, implies_true, Bool.not_not, Classical.not_not, go_sem, Int.reduceToNat, List.take_nil, Nat.zero_mul, Nat.reduceEqDiff, Nat.reduceAdd, Nat.reduceLT, Nat.reduceLeDiff, Nat.reduceMul, ↓reduceIte, reduceCtorEq]
      refine loop_intro (fun i : Nat × List AB × Nat => ⟨[(0, .sl 0 0 P.length c), (2, .fn f first caps), (7, .p σ.length 0), (9, .i .i64 ((gN P k).C + i.1 * ((gN P k).C + cstA true P (gN P k).A.toNat))), (61, .i .i64 (gN P k).Bd), (62, .i .i64 i.1)], i.2.1⟩) (fun i => i.1 ≤ (gN P k).Bd.toNat ∧ Hp (pre ++ [wc P k] ++ (List.replicate i.1 (wch P (gN P k).A.toNat)).flatten) i.2.1 i.2.2 ∧ Keeps a p (σ ++ [AB.rw ty_impl_Node [.i .i64 4, .i .i64 (gN P k).C, .i .i64 (gN P k).A, .i .i64 (gN P k).B, .i .i64 (gN P k).Bd] 5]) i.2.1 i.2.2) (fun i => (gN P k).Bd.toNat - i.1) (0, σ1, p1) ⟨Nat.zero_le _, by simpa using g1, k1⟩ (Wk.keep (by simp [look_cons, wb])) ?_
      rintro ⟨m, H, q⟩ ⟨hm, hg, hkp⟩
      simp only at hm hg hkp
      have n1 := nd hkp
      simp only [l0_impl_execute, onC_of n1, not_true_eq_false, not_false_eq_true, decide_true, decide_false, Bool.not_true, Bool.not_false, false_implies, true_implies, and_true, true_and, Bool.false_eq_true, Bool.true_eq_false, implies_true, Bool.not_not, Classical.not_not, go_sem, Int.reduceToNat, List.take_nil, Nat.zero_mul, Nat.reduceEqDiff, Nat.reduceAdd, Nat.reduceLT, Nat.reduceLeDiff, Nat.reduceMul, ↓reduceIte, reduceCtorEq]
      refine ⟨fun hlt => ?_, fun hge => ?_⟩
      · have a3 := a2 (by omega)
        have pa := ps (gN P k).A.toNat (by omega)
        have hx := mul_bnd (b := (m : Int)) (x := (gN P k).C + cstA true P (gN P k).A.toNat) (by omega) (by omega)
        have e3 : pre ++ [wc P k] ++ (List.replicate (m + 1) (wch P (gN P k).A.toNat)).flatten = pre ++ [wc P k] ++ (List.replicate m (wch P (gN P k).A.toNat)).flatten ++ wch P (gN P k).A.toNat := by rw [rep_snoc, List.append_assoc (pre ++ [wc P k])]
        have e4 : ((m + 1 : Nat) : Int) * ((gN P k).C + cstA true P (gN P k).A.toNat) = m * ((gN P k).C + cstA true P (gN P k).A.toNat) + ((gN P k).C + cstA true P (gN P k).A.toNat) := by rw [Int.natCast_succ, Int.add_mul, Int.one_mul]
        refine ih _ (by omega) (by omega) (by omega) a3 _ _ q _ hg (by rw [← e3]; exact List.IsPrefix.trans (List.prefix_append_right_inj _ |>.2 (rep_pre (by omega))) hW) fun σ2 p2 g2 k2 => ?_
        have n2 := nd (hkp.trans k2)
        simp only [onC_of n2, not_true_eq_false, not_false_eq_true, decide_true, decide_false, Bool.not_true, Bool.not_false, false_implies, true_implies, and_true, true_and, Bool.false_eq_true, Bool.true_eq_false, implies_true, Bool.not_not, Classical.not_not, go_sem, Int.reduceToNat, List.take_nil, Nat.zero_mul, Nat.reduceEqDiff, Nat.reduceAdd, Nat.reduceLT, Nat.reduceLeDiff, Nat.reduceMul, ↓reduceIte, reduceCtorEq]
        refine ⟨by omega, by omega, by omega, (m + 1, σ2, p2), ⟨⟨by simp only; omega, by simp only [e3]; exact g2, hkp.trans k2⟩, by simp only; omega⟩, ?_⟩
        rw [show (gN P k).C + ((m + 1 : Nat) : Int) * ((gN P k).C + cstA true P (gN P k).A.toNat) = (gN P k).C + m * ((gN P k).C + cstA true P (gN P k).A.toNat) + ((gN P k).C + cstA true P (gN P k).A.toNat) by omega]
        exact Wk.keep (by simp [look_cons])
      · have em : m = (gN P k).Bd.toNat := by omega
        subst em
        have := hK _ _ hg (Keeps.back hkp)
        rw [e1] at this
        rw [show (((gN P k).Bd.toNat : Nat) : Int) = (gN P k).Bd by omega]
        exact Fin.plain this
end Go.Proofs.Ytfngcejaphhmmaa
