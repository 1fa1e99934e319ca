import Derived.Test.YtmphblbpofnpaaaRows
import Derived.Test.YtmphblbpofnpaaaV31
import Derived.Test.YtmphblbpofnpaaaAbsY
import Derived.WalkKit
import Derived.ProofKit
import Derived.OpenShut
import Derived.Below
import Derived.Carry
import Derived.SizedLaws
import Derived.KernelRfl
namespace Go.Proofs.Ytmphblbpofnpaaa.fnExactRunMixed
open Go.ChangeShapes Go.WideShapes Go.ChangeAt Go.RowKit Go.Abs Go.Ds
set_option linter.unusedVariables false
set_option linter.unusedSimpArgs false
theorem own : ownKnob Try.prog.godebug = none := by kernel_rfl
theorem laidOut : laidOutB Try.prog = true := by kernel_rfl
theorem open_T92 {H : Type} {enc : TypeId × Value → H} {w : World} {spare : Nat → Bool} {held : Bool} (n : Nat) (cs : List Value) (y : DataW H × List MemPlace) (_ : cs.length = encMT.k) (h : DataW.trod enc Try.prog w 0 spare held n 92 cs = some y) : ∃ x : MTask, True ∧ IsEl encMT x cs := by
  obtain ⟨x0, h0, w0⟩ := field_int Try.underlying92 h 0 rfl Try.underlying3 (by kernel_rfl)
  obtain ⟨x1, h1, w1⟩ := field_int Try.underlying92 h 1 rfl Try.underlying3 (by kernel_rfl)
  obtain ⟨x2, h2, w2⟩ := field_int Try.underlying92 h 2 rfl Try.underlying3 (by kernel_rfl)
  obtain ⟨x3, h3⟩ := field_bool Try.underlying92 h 3 rfl Try.underlying4 (by kernel_rfl)
  refine ⟨⟨x0, x1, x2, x3⟩, trivial, fun j a ha => ?_⟩
  match j, ha with
  | 0, ha => cases ha; exact ⟨_, h0, rfl⟩
  | 1, ha => cases ha; exact ⟨_, h1, rfl⟩
  | 2, ha => cases ha; exact ⟨_, h2, rfl⟩
  | 3, ha => cases ha; exact ⟨_, h3, rfl⟩
  | j + 4, ha => simp [encMT] at ha
theorem open_T94 {H : Type} {enc : TypeId × Value → H} {w : World} {spare : Nat → Bool} {held : Bool} (n : Nat) (cs : List Value) (y : DataW H × List MemPlace) (_ : cs.length = encJob.k) (h : DataW.trod enc Try.prog w 0 spare held n 94 cs = some y) : ∃ x : Job, True ∧ IsEl encJob x cs := by
  obtain ⟨x0, h0, w0⟩ := field_int Try.underlying94 h 0 rfl Try.underlying3 (by kernel_rfl)
  obtain ⟨x1, h1, w1⟩ := field_int Try.underlying94 h 1 rfl Try.underlying3 (by kernel_rfl)
  obtain ⟨x2, h2, w2⟩ := field_int Try.underlying94 h 2 rfl Try.underlying3 (by kernel_rfl)
  obtain ⟨x3, h3, w3⟩ := field_int Try.underlying94 h 3 rfl Try.underlying3 (by kernel_rfl)
  refine ⟨⟨x0, x1, x2, x3⟩, trivial, fun j a ha => ?_⟩
  match j, ha with
  | 0, ha => cases ha; exact ⟨_, h0, rfl⟩
  | 1, ha => cases ha; exact ⟨_, h1, rfl⟩
  | 2, ha => cases ha; exact ⟨_, h2, rfl⟩
  | 3, ha => cases ha; exact ⟨_, h3, rfl⟩
  | j + 4, ha => simp [encJob] at ha
set_option maxRecDepth 100000 in
theorem lifted (os : Os) (started : os.Started) (H : Type) (enc : TypeId × Value → H) :
    ReturnsInHanded {} Try.checked os 7 .any (Rows.fnExactRunMixedSpec.pre6 enc Try.prog Try.f7 Rows.fnExactRunMixedRow.domain false) (Rows.fnExactRunMixedSpec.post enc Try.prog Try.f7 false true false false) := by
  refine returnsInHanded_of_change_sized (C := Try.checked) own started (by kernel_rfl) Try.func7
    (ChangeSpec.witness6 (enc := enc) (C := Try.checked) false ⟨#[], #[.slice none 0 0, .slice none 0 0], []⟩ 8 (by kernel_rfl) (by kernel_rfl) (by kernel_rfl) (by kernel_rfl)) ?_
  intro W base args ds gs before hval0 hW hcnd hsz0 _
  have hsz : (DataW.weightsEach Try.prog (Try.f7.params.toList ++ Rows.fnExactRunMixedSpec.plain.varTypes Try.prog) (ds ++ gs)).all (· ≤ reachBytes) = true := hsz0
  have hval : ∀ (j : Nat) t v, Try.f7.params[j]? = some t → args[j]? = some v → Value.okWide Try.prog W .any base t v := hval0
  have hW' := hW
  obtain ⟨p, q, hA0, hV, rfl, hfz, hnd⟩ := hW
  have hA : DataW.TrodAll enc Try.prog W 0 (fun _ => true) true Try.f7.params.toList args.toList ds p := hA0
  rw [Try.params7] at hA hval hsz
  obtain ⟨v0, vs0, d0, ds0, p0, q0, hargs, rfl, rfl, h0, r0⟩ := trodAll_cons hA
  obtain ⟨v1, vs1, d1, ds1, p1, q1, rfl, rfl, rfl, h1, r1⟩ := trodAll_cons r0
  obtain ⟨rfl, rfl, rfl⟩ := trodAll_nil r1
  obtain rfl : args = #[v0, v1] := by cases args; simp_all
  obtain ⟨rfl, rfl⟩ := trodVars_none hV
  have lt0 : ∀ x ∈ p0, x.block < W.heap.size := by obtain ⟨m, hm⟩ := h0; exact DataW.trod_lt m _ _ _ hm
  obtain ⟨L0, cap0, w0, ok0, y0, z0⟩ := open_flat encMT (by decide) (ok := fun _ : MTask => True) (B := 32) (j := 0) (t := 47) (e := 92) Try.underlying47 (by kernel_rfl) (by kernel_rfl) open_T92 (hval 0 47 v0 rfl rfl) hsz rfl rfl h0
  obtain ⟨a0, m0, b0⟩ := w0.holds
  have lt1 : ∀ x ∈ p1, x.block < W.heap.size := by obtain ⟨m, hm⟩ := h1; exact DataW.trod_lt m _ _ _ hm
  obtain ⟨L1, cap1, w1, ok1, y1, z1⟩ := open_flat encJob (by decide) (ok := fun _ : Job => True) (B := 32) (j := 1) (t := 48) (e := 94) Try.underlying48 (by kernel_rfl) (by kernel_rfl) open_T94 (hval 1 48 v1 rfl rfl) hsz rfl rfl h1
  obtain ⟨a1, m1, b1⟩ := w1.holds
  clear hA0 hval0 hsz0 hsz
  have hc := c_FnExactRunMixed L0 cap0 L1 cap1 ok0 y0 z0 ok1 y1 z1
  refine (law_calls (rows := [encMT.row L0, encJob.row L1]) (vs := [v0, v1]) hc (fun n => if n = 0 then a0 else if n = 1 then a1 else (0, 0)) ?_ ⟨m0 _ _ 0 (by simp) rfl, m1 _ _ 1 (by simp) rfl, trivial⟩).mono fun e W' ⟨he, bel⟩ => ?_
  · intro n row hn
    match n, hn with
    | 0, hn => cases hn; exact b0 _ _
    | 1, hn => cases hn; exact b1 _ _
    | n + 2, hn => simp at hn
  subst he
  exact ⟨_, rfl, _, _, _, [], _, [], hW', trodAll_mk1 (shut_bool Try.underlying4 _), (trodAll_cons_mk (Below.trod laidOut (by kernel_rfl) (of_decide_eq_true (by kernel_rfl)) h0 bel lt0) (trodAll_cons_mk (Below.trod laidOut (by kernel_rfl) (of_decide_eq_true (by kernel_rfl)) h1 bel lt1) trodAll_mk0)), rfl, bel.frame _, fun h => by cases h⟩
theorem over : Rows.fnExactRunMixedRow.holds Try.pinned (OpenSpec.ofChange Rows.fnExactRunMixedSpec) :=
  OpenClaim.holds_of_wide 7 Try.f7 rfl rfl rfl rfl rfl rfl rfl ⟨rfl, rfl, rfl, rfl, rfl⟩ rfl rfl rfl rfl rfl (by kernel_rfl) Try.func7 (by kernel_rfl)
    (of_decide_eq_true (by kernel_rfl)) (by unfold Func.isWrapper; first | (rw [if_pos (by decide +kernel)]; kernel_rfl) | (rw [if_neg (by decide +kernel)]; exact ⟨rfl, rfl⟩))
    (fun os started H enc _ => lifted os started H enc)
theorem proved : Rows.FnExactRunMixedSaid := over
#print axioms proved
end Go.Proofs.Ytmphblbpofnpaaa.fnExactRunMixed
namespace Go.Proofs.Ytmphblbpofnpaaa
theorem fnExactRunMixed_holds : Rows.FnExactRunMixedSaid := fnExactRunMixed.proved
end Go.Proofs.Ytmphblbpofnpaaa
