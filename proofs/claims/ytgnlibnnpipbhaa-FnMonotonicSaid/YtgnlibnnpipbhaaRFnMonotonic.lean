import Derived.Test.YtgnlibnnpipbhaaRows
import Derived.Test.YtgnlibnnpipbhaaV45
import Derived.Test.YtgnlibnnpipbhaaAbsY
import Derived.WalkKit
import Derived.ProofKit
import Derived.OpenShut
import Derived.Below
import Derived.Carry
import Derived.SizedLaws
import Derived.KernelRfl
namespace Go.Proofs.Ytgnlibnnpipbhaa.fnMonotonic
open Go.ChangeShapes Go.WideShapes Go.ChangeAt Go.RowKit Go.Abs Go.Ds
set_option linter.unusedVariables false
set_option linter.unusedSimpArgs false
theorem own : ownKnob Try.prog.godebug = none := by kernel_rfl
theorem laidOut : laidOutB Try.prog = true := by kernel_rfl
set_option maxRecDepth 100000 in
theorem lifted (os : Os) (started : os.Started) (H : Type) (enc : TypeId × Value → H) :
    ReturnsInHanded {} Try.checked os 9 .any (Rows.fnMonotonicSpec.pre6 enc Try.prog Try.f9 Rows.fnMonotonicRow.domain false) (Rows.fnMonotonicSpec.post enc Try.prog Try.f9 false true false false) := by
  refine returnsInHanded_of_change_sized (C := Try.checked) own started (by kernel_rfl) Try.func9
    (ChangeSpec.witness6 (enc := enc) (C := Try.checked) false ⟨#[], #[.slice none 0 0], []⟩ 8 (by kernel_rfl) (by kernel_rfl) (by kernel_rfl) (by kernel_rfl)) ?_
  intro W base args ds gs before hval0 hW hcnd hsz0 _
  have hsz : (DataW.weightsEach Try.prog (Try.f9.params.toList ++ Rows.fnMonotonicSpec.plain.varTypes Try.prog) (ds ++ gs)).all (· ≤ reachBytes) = true := hsz0
  have hval : ∀ (j : Nat) t v, Try.f9.params[j]? = some t → args[j]? = some v → Value.okWide Try.prog W .any base t v := hval0
  have hW' := hW
  obtain ⟨p, q, hA0, hV, rfl, hfz, hnd⟩ := hW
  have hA : DataW.TrodAll enc Try.prog W 0 (fun _ => true) true Try.f9.params.toList args.toList ds p := hA0
  rw [Try.params9] at hA hval hsz
  obtain ⟨v0, vs0, d0, ds0, p0, q0, hargs, rfl, rfl, h0, r0⟩ := trodAll_cons hA
  obtain ⟨rfl, rfl, rfl⟩ := trodAll_nil r0
  obtain rfl : args = #[v0] := by cases args; simp_all
  obtain ⟨rfl, rfl⟩ := trodVars_none hV
  have lt0 : ∀ x ∈ p0, x.block < W.heap.size := by obtain ⟨m, hm⟩ := h0; exact DataW.trod_lt m _ _ _ hm
  obtain ⟨L0, cap0, w0, ok0, y0, z0⟩ := open_flat encByte (by decide) (ok := fun x : Nat => x < 256) (B := 1) (j := 0) (t := 22) (e := 5) Try.underlying22 (by kernel_rfl) (by kernel_rfl) (open_u8 Try.underlying5) (hval 0 22 v0 rfl rfl) hsz rfl rfl h0
  obtain ⟨a0, m0, b0⟩ := w0.holds
  clear hA0 hval0 hsz0 hsz
  have hc := c_FnMonotonic L0 cap0 ok0 y0 z0
  refine (law_calls (rows := [encByte.row L0]) (vs := [v0]) hc (fun n => if n = 0 then a0 else (0, 0)) ?_ ⟨m0 _ _ 0 (by simp) rfl, trivial⟩).mono fun e W' ⟨he, bel⟩ => ?_
  · intro n row hn
    match n, hn with
    | 0, hn => cases hn; exact b0 _ _
    | n + 1, hn => simp at hn
  subst he
  exact ⟨_, rfl, _, _, _, [], _, [], hW', trodAll_mk1 (shut_bool Try.underlying4 _), (trodAll_cons_mk (Below.trod laidOut (by kernel_rfl) (of_decide_eq_true (by kernel_rfl)) h0 bel lt0) trodAll_mk0), rfl, bel.frame _, fun h => by cases h⟩
theorem over : Rows.fnMonotonicRow.holds Try.pinned (OpenSpec.ofChange Rows.fnMonotonicSpec) :=
  OpenClaim.holds_of_wide 9 Try.f9 rfl rfl rfl rfl rfl rfl rfl ⟨rfl, rfl, rfl, rfl, rfl⟩ rfl rfl rfl rfl rfl (by kernel_rfl) Try.func9 (by kernel_rfl)
    (of_decide_eq_true (by kernel_rfl)) (by unfold Func.isWrapper; first | (rw [if_pos (by decide +kernel)]; kernel_rfl) | (rw [if_neg (by decide +kernel)]; exact ⟨rfl, rfl⟩))
    (fun os started H enc _ => lifted os started H enc)
theorem proved : Rows.FnMonotonicSaid := over
#print axioms proved
end Go.Proofs.Ytgnlibnnpipbhaa.fnMonotonic
namespace Go.Proofs.Ytgnlibnnpipbhaa
theorem fnMonotonic_holds : Rows.FnMonotonicSaid := fnMonotonic.proved
end Go.Proofs.Ytgnlibnnpipbhaa
