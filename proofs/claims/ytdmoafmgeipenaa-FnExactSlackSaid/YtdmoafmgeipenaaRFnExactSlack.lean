/- The law FnExactSlack holds: for every input that the row admits its call returns true and leaves its arguments as they were. No condition beyond the row's own. -/
import Derived.Test.YtdmoafmgeipenaaRows
import Derived.Test.YtdmoafmgeipenaaE12
import Derived.Test.YtdmoafmgeipenaaAbsN
import Derived.WalkKit
import Derived.ProofKit
import Derived.OpenShut
import Derived.Below
import Derived.Carry
import Derived.SizedLaws
import Derived.KernelRfl
namespace Go.Proofs.Ytdmoafmgeipenaa.fnExactSlack
open Go.ChangeShapes Go.WideShapes Go.ChangeAt Go.RowKit Go.Abs Go.Ds
set_option linter.unusedVariables false
set_option linter.unusedSimpArgs false
theorem own : ownKnob Try.prog.godebug = none := by kernel_rfl
theorem laidOut : laidOutB Try.prog = true := by kernel_rfl
theorem open_T97 {H : Type} {enc : TypeId × Value → H} {w : World} {spare : Nat → Bool} {held : Bool} (n : Nat) (cs : List Value) (y : DataW H × List MemPlace) (_ : cs.length = encTask.k) (h : DataW.trod enc Try.prog w 0 spare held n 97 cs = some y) : ∃ x : Task, True ∧ IsEl encTask x cs := by
  obtain ⟨x0, h0, w0⟩ := field_int Try.underlying97 h 0 rfl Try.underlying3 (by kernel_rfl)
  obtain ⟨x1, h1, w1⟩ := field_int Try.underlying97 h 1 rfl Try.underlying3 (by kernel_rfl)
  obtain ⟨x2, h2, w2⟩ := field_int Try.underlying97 h 2 rfl Try.underlying3 (by kernel_rfl)
  refine ⟨⟨x0, x1, x2⟩, trivial, fun j a ha => ?_⟩
  match j, ha with
  | 0, ha => cases ha; exact ⟨_, h0, rfl⟩
  | 1, ha => cases ha; exact ⟨_, h1, rfl⟩
  | 2, ha => cases ha; exact ⟨_, h2, rfl⟩
  | j + 3, ha => simp [encTask] at ha
theorem open_T99 {H : Type} {enc : TypeId × Value → H} {w : World} {spare : Nat → Bool} {held : Bool} (n : Nat) (cs : List Value) (y : DataW H × List MemPlace) (_ : cs.length = encJob.k) (h : DataW.trod enc Try.prog w 0 spare held n 99 cs = some y) : ∃ x : Job, True ∧ IsEl encJob x cs := by
  obtain ⟨x0, h0, w0⟩ := field_int Try.underlying99 h 0 rfl Try.underlying3 (by kernel_rfl)
  obtain ⟨x1, h1, w1⟩ := field_int Try.underlying99 h 1 rfl Try.underlying3 (by kernel_rfl)
  obtain ⟨x2, h2, w2⟩ := field_int Try.underlying99 h 2 rfl Try.underlying3 (by kernel_rfl)
  obtain ⟨x3, h3, w3⟩ := field_int Try.underlying99 h 3 rfl Try.underlying3 (by kernel_rfl)
  refine ⟨⟨x0, x1, x2, x3⟩, trivial, fun j a ha => ?_⟩
  match j, ha with
  | 0, ha => cases ha; exact ⟨_, h0, rfl⟩
  | 1, ha => cases ha; exact ⟨_, h1, rfl⟩
  | 2, ha => cases ha; exact ⟨_, h2, rfl⟩
  | 3, ha => cases ha; exact ⟨_, h3, rfl⟩
  | j + 4, ha => simp [encJob] at ha
set_option maxRecDepth 100000 in
theorem lifted (os : Os) (started : os.Started) (H : Type) (enc : TypeId × Value → H) :
    ReturnsInHanded {} Try.checked os 6 .any (Rows.fnExactSlackSpec.pre6 enc Try.prog Try.f6 Rows.fnExactSlackRow.domain false) (Rows.fnExactSlackSpec.post enc Try.prog Try.f6 false true false false) := by
  refine returnsInHanded_of_change_sized (C := Try.checked) own started (by kernel_rfl) Try.func6
    (ChangeSpec.witness6 (enc := enc) (C := Try.checked) false ⟨#[], #[.slice none 0 0, .slice none 0 0, .int .i64 0], []⟩ 8 (by kernel_rfl) (by kernel_rfl) (by kernel_rfl) (by kernel_rfl)) ?_
  intro W base args ds gs before hval0 hW hcnd hsz0 _
  have hsz : (DataW.weightsEach Try.prog (Try.f6.params.toList ++ Rows.fnExactSlackSpec.plain.varTypes Try.prog) (ds ++ gs)).all (· ≤ reachBytes) = true := hsz0
  have hval : ∀ (j : Nat) t v, Try.f6.params[j]? = some t → args[j]? = some v → Value.okWide Try.prog W .any base t v := hval0
  have hW' := hW
  obtain ⟨p, q, hA0, hV, rfl, hfz, hnd⟩ := hW
  have hA : DataW.TrodAll enc Try.prog W 0 (fun _ => true) true Try.f6.params.toList args.toList ds p := hA0
  rw [Try.params6] at hA hval hsz
  obtain ⟨v0, vs0, d0, ds0, p0, q0, hargs, rfl, rfl, h0, r0⟩ := trodAll_cons hA
  obtain ⟨v1, vs1, d1, ds1, p1, q1, rfl, rfl, rfl, h1, r1⟩ := trodAll_cons r0
  obtain ⟨v2, vs2, d2, ds2, p2, q2, rfl, rfl, rfl, h2, r2⟩ := trodAll_cons r1
  obtain ⟨rfl, rfl, rfl⟩ := trodAll_nil r2
  obtain rfl : args = #[v0, v1, v2] := by cases args; simp_all
  obtain ⟨rfl, rfl⟩ := trodVars_none hV
  have lt0 : ∀ x ∈ p0, x.block < W.heap.size := by obtain ⟨m, hm⟩ := h0; exact DataW.trod_lt m _ _ _ hm
  obtain ⟨L0, cap0, w0, ok0, y0, z0⟩ := open_flat encTask (by decide) (ok := fun _ : Task => True) (B := 24) (j := 0) (t := 45) (e := 97) Try.underlying45 (by kernel_rfl) (by kernel_rfl) open_T97 (hval 0 45 v0 rfl rfl) hsz rfl rfl h0
  obtain ⟨a0, m0, b0⟩ := w0.holds
  have lt1 : ∀ x ∈ p1, x.block < W.heap.size := by obtain ⟨m, hm⟩ := h1; exact DataW.trod_lt m _ _ _ hm
  obtain ⟨L1, cap1, w1, ok1, y1, z1⟩ := open_flat encJob (by decide) (ok := fun _ : Job => True) (B := 32) (j := 1) (t := 46) (e := 99) Try.underlying46 (by kernel_rfl) (by kernel_rfl) open_T99 (hval 1 46 v1 rfl rfl) hsz rfl rfl h1
  obtain ⟨a1, m1, b1⟩ := w1.holds
  obtain ⟨n2, rfl, rfl, rfl, wf2⟩ := open_int Try.underlying3 (hval 2 3 v2 rfl rfl) h2
  clear hA0 hval0 hsz0 hsz
  have hc := c_FnExactSlack L0 cap0 L1 cap1 n2 ok0 y0 z0 ok1 y1 z1
  refine (law_calls (rows := [encTask.row L0, encJob.row L1]) (vs := [v0, v1, .int .i64 n2]) hc (fun n => if n = 0 then a0 else if n = 1 then a1 else (0, 0)) ?_ ⟨m0 _ _ 0 (by simp) rfl, m1 _ _ 1 (by simp) rfl, rfl, trivial⟩).mono fun e W' ⟨he, bel⟩ => ?_
  · intro n row hn
    match n, hn with
    | 0, hn => cases hn; exact b0 _ _
    | 1, hn => cases hn; exact b1 _ _
    | n + 2, hn => simp at hn
  subst he
  exact ⟨_, rfl, _, _, _, [], _, [], hW', trodAll_mk1 (shut_bool Try.underlying4 _), (trodAll_cons_mk (Below.trod laidOut (by kernel_rfl) (of_decide_eq_true (by kernel_rfl)) h0 bel lt0) (trodAll_cons_mk (Below.trod laidOut (by kernel_rfl) (of_decide_eq_true (by kernel_rfl)) h1 bel lt1) (trodAll_cons_mk (shut_int Try.underlying3 wf2) trodAll_mk0))), rfl, bel.frame _, fun h => by cases h⟩
theorem over : Rows.fnExactSlackRow.holds Try.pinned (OpenSpec.ofChange Rows.fnExactSlackSpec) :=
  OpenClaim.holds_of_wide 6 Try.f6 rfl rfl rfl rfl rfl rfl rfl ⟨rfl, rfl, rfl, rfl, rfl⟩ rfl rfl rfl rfl rfl (by kernel_rfl) Try.func6 (by kernel_rfl)
    (of_decide_eq_true (by kernel_rfl)) (by unfold Func.isWrapper; first | (rw [if_pos (by decide +kernel)]; kernel_rfl) | (rw [if_neg (by decide +kernel)]; exact ⟨rfl, rfl⟩))
    (fun os started H enc _ => lifted os started H enc)
theorem proved : Rows.FnExactSlackSaid := over
#print axioms proved
end Go.Proofs.Ytdmoafmgeipenaa.fnExactSlack
namespace Go.Proofs.Ytdmoafmgeipenaa
/-- The row, under a short name, for the claim. -/
theorem fnExactSlack_holds : Rows.FnExactSlackSaid := fnExactSlack.proved
end Go.Proofs.Ytdmoafmgeipenaa
