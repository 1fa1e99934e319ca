/- The law FnFormatTask holds, and its card: for every input that the row admits its call returns true and leaves its arguments as they were. Condition: the listed package-level variables hold what the program's text lays (the given tie). -/
import Derived.Test.YtfngcejaphhmmaaDoorRows
import Derived.Test.YtfngcejaphhmmaaDoorCards
import Derived.Test.YtfngcejaphhmmaaDoorTie
import Derived.Test.YtfngcejaphhmmaaDoorV46
import Derived.Test.YtfngcejaphhmmaaDoorAbsY
import Derived.WalkKit
import Derived.ProofKit
import Derived.OpenShut
import Derived.Below
import Derived.Carry
import Derived.SizedLaws
import Derived.KernelRfl
import Derived.LaidLaws
import Derived.Stop.LaidErr
import Derived.Lay
import Derived.MakeChecks
import Derived.SevenTiedAt
import Derived.Stop.Joined
namespace Go.Proofs.YtfngcejaphhmmaaDoor.fnFormatTask
open Go.ChangeShapes Go.WideShapes Go.ChangeAt Go.RowKit Go.Abs Go.Ds
set_option linter.unusedVariables false
set_option linter.unusedSimpArgs false
theorem own : ownKnob Tryd.prog.godebug = none := by kernel_rfl
theorem laidOut : laidOutB Tryd.prog = true := by kernel_rfl
theorem gES : Tryd.prog.globalNamed "strconv.ErrSyntax" = some 0 := by kernel_rfl
theorem gESType : (Tryd.prog.globals[0]?).map (·.type) = some 42 := by kernel_rfl
theorem cellsE : Tryd.prog.cellsOf 89 = 1 := by kernel_rfl
theorem cellsS : Tryd.prog.cellsOf 9 = 1 := by kernel_rfl
theorem star : "*" ++ "errors.errorString" = "*errors.errorString" := by decide
theorem rowE (u : TypeId) (h : Tryd.prog.typeName? 3 u = some "*errors.errorString") : u = 87 :=
  typeName_ptr_named (nm := "errors.errorString") (by rw [star]; kernel_rfl) (by kernel_rfl) (by decide) u (by rw [star]; exact h)
theorem errCell {W : World} (h : laidMetH Tryd.prog Rows.fnFormatTaskRow.laid W) : ∃ a : Addr, ∃ c T fr, W.heap[0]? = some (.cells c T fr) ∧ c[0]? = some (.iface 87 (.pointer (some a))) := by
  rw [MakeChecks.laidMetH_plain _ _ _ (by kernel_rfl)] at h
  obtain ⟨a, s, hv, _⟩ := laid_sentinel h.tail.tail.tail.tail.tail gES gESType Tryd.underlying42 rowE Tryd.underlying87 Tryd.underlying89 rfl rfl Tryd.underlying9 cellsE cellsS
  have h0 := World.var?_cell gES hv 0
  refine ⟨a, ?_⟩
  unfold World.var? at hv
  rw [gES] at hv
  simp only [Option.bind_some] at hv
  split at hv
  · rename_i cs T fr hh
    obtain rfl := Option.some.inj hv
    exact ⟨_, T, fr, hh, rfl⟩
  · cases hv
set_option maxRecDepth 100000 in
theorem lifted (os : Os) (started : os.Started) (H : Type) (enc : TypeId × Value → H) :
    ReturnsInHanded {} Tryd.checked os 3 .any (fun w args => (Rows.fnFormatTaskSpec.pre enc Tryd.prog Tryd.f3 Rows.fnFormatTaskRow.domain false w args ∧ laidMetH Tryd.prog Rows.fnFormatTaskRow.laid w) ∧ sizedMet enc Tryd.prog Tryd.f3 (OpenSpec.ofChange Rows.fnFormatTaskSpec) false w args)
      (Rows.fnFormatTaskSpec.post enc Tryd.prog Tryd.f3 false true false false) := by
  refine returnsInHanded_of_change_and (C := Tryd.checked) (X := fun w _ => laidMetH Tryd.prog Rows.fnFormatTaskRow.laid w) (fun _ _ _ hh h => h.of_heap hh) own started (by kernel_rfl) Tryd.func3
    (ChangeSpec.witness_shaped (enc := enc) (C := Tryd.checked) (os := os) (X := fun w _ => laidMetH Tryd.prog Rows.fnFormatTaskRow.laid w) false (World.laidAll Tryd.prog os Rows.fnFormatTaskRow.laid) #[.slice none 0 0, .slice none 0 0] 8 (World.laidAll_os _ _ _)
      (World.shaped_of_ZipB (by kernel_rfl) (by kernel_rfl)) (by kernel_rfl) (by kernel_rfl) (by kernel_rfl)
      (by rw [MakeChecks.laidMetH_plain _ _ _ (by kernel_rfl)]; exact laidMet_laidAll _ (by kernel_rfl) (by kernel_rfl))) ?_
  intro W base args ds gs before hval0 hW hcnd hsz0 hL _
  have hsz : (DataW.weightsEach Tryd.prog (Tryd.f3.params.toList ++ Rows.fnFormatTaskSpec.plain.varTypes Tryd.prog) (ds ++ gs)).all (· ≤ reachBytes) = true := hsz0
  have hval : ∀ (j : Nat) t v, Tryd.f3.params[j]? = some t → args[j]? = some v → Value.okWide Tryd.prog W .any base t v := hval0
  have hW' := hW
  obtain ⟨p, q, hA0, hV, rfl, hfz, hnd⟩ := hW
  have hA : DataW.TrodAll enc Tryd.prog W 0 (fun _ => true) true Tryd.f3.params.toList args.toList ds p := hA0
  rw [Tryd.params3] at hA hval hsz
  obtain ⟨v0, vs0, d0, ds0, p0, q0, hargs, rfl, rfl, h0, r0⟩ := trodAll_cons hA
  obtain ⟨v1, vs1, d1, ds1, p1, q1, rfl, rfl, rfl, h1, r1⟩ := trodAll_cons r0
  obtain ⟨rfl, rfl, rfl⟩ := trodAll_nil r1
  obtain rfl : args = #[v0, v1] := by cases args; simp_all
  obtain ⟨rfl, rfl⟩ := trodVars_none hV
  have lt0 : ∀ x ∈ p0, x.block < W.heap.size := by obtain ⟨m, hm⟩ := h0; exact DataW.trod_lt m _ _ _ hm
  obtain ⟨L0, cap0, w0, ok0, y0, z0⟩ := open_flat encByte (by decide) (ok := fun x : Nat => x < 256) (B := 1) (j := 0) (t := 22) (e := 5) Tryd.underlying22 (by kernel_rfl) (by kernel_rfl) (open_u8 Tryd.underlying5) (hval 0 22 v0 rfl rfl) hsz rfl rfl h0
  obtain ⟨a0, m0, b0⟩ := w0.holds
  have lt1 : ∀ x ∈ p1, x.block < W.heap.size := by obtain ⟨m, hm⟩ := h1; exact DataW.trod_lt m _ _ _ hm
  obtain ⟨L1, cap1, w1, ok1, y1, z1⟩ := open_flat encByte (by decide) (ok := fun x : Nat => x < 256) (B := 1) (j := 1) (t := 22) (e := 5) Tryd.underlying22 (by kernel_rfl) (by kernel_rfl) (open_u8 Tryd.underlying5) (hval 1 22 v1 rfl rfl) hsz rfl rfl h1
  obtain ⟨a1, m1, b1⟩ := w1.holds
  clear hA0 hval0 hsz0 hsz
  obtain ⟨ae, hce⟩ := errCell hL
  have hc := c_FnFormatTask L0 cap0 L1 cap1 ok0 ok1 (ev := .iface 87 (.pointer (some ae))) (.inr ⟨_, _, rfl⟩)
  refine (law_callsG (rows := [encByte.row L0, encByte.row L1]) (vs := [v0, v1]) (b := 0) hc (fun n => if n = 0 then a0 else if n = 1 then a1 else if n = 2 then (0, 0) else (0, 0)) ?_ rfl hce ⟨m0 _ _ 0 (by simp) rfl, m1 _ _ 1 (by simp) rfl, trivial⟩).mono fun e W' ⟨he, bel⟩ => ?_
  · intro n row hn
    match n, hn with
    | 0, hn => cases hn; exact b0 _ _
    | 1, hn => cases hn; exact b1 _ _
    | n + 2, hn => simp at hn
  subst he
  exact ⟨_, rfl, _, _, _, [], _, [], hW', trodAll_mk1 (shut_bool Tryd.underlying4 _), (trodAll_cons_mk (Below.trod laidOut (by kernel_rfl) (of_decide_eq_true (by kernel_rfl)) h0 bel lt0) (trodAll_cons_mk (Below.trod laidOut (by kernel_rfl) (of_decide_eq_true (by kernel_rfl)) h1 bel lt1) trodAll_mk0)), rfl, bel.frame _, fun h => by cases h⟩
theorem over : Rows.fnFormatTaskRow.holds Tryd.pinned (OpenSpec.ofChange Rows.fnFormatTaskSpec) :=
  OpenClaim.holds_of_wide 3 Tryd.f3 rfl rfl rfl rfl rfl rfl rfl ⟨rfl, rfl, rfl, rfl, rfl⟩ rfl rfl rfl rfl rfl (by kernel_rfl) Tryd.func3 (by kernel_rfl)
    (of_decide_eq_true (by kernel_rfl)) (by unfold Func.isWrapper; first | (rw [if_pos (by decide +kernel)]; kernel_rfl) | (rw [if_neg (by decide +kernel)]; exact ⟨rfl, rfl⟩))
    (fun os started H enc _ => lifted os started H enc)
theorem card : Rows.FnFormatTaskCardSaid :=
  Claim7.holds_tied_plain_at .later [] [.data, .data, .data, .data, .sentinel, .sentinel, .pinned] true (true, "346c74736a3e587e5065a60c3eb117f6b7ad0800df2a6149c751affcc0a657a5") true
    over (fun _ h => by cases h) (by kernel_rfl) (fun _ h => by cases h) fnFormatTask_row_tie rfl ⟨rfl, rfl⟩ (by kernel_rfl) rfl
    (fun f fn hf hfn => by
      obtain rfl : f = 3 := Option.some.inj ((show Tryd.prog.funcNamed "loop.example/deadlinescheduler/laws.FnFormatTask" = some 3 by kernel_rfl).symm.trans hf) |>.symm
      obtain rfl : fn = Tryd.f3 := (Option.some.inj (Tryd.func3.symm.trans hfn)).symm
      exact ⟨by kernel_rfl, fun j t ht => by
        rw [Tryd.params3] at ht
        have hm : t ∈ [22, 22] := by simpa using Array.mem_of_getElem? ht
        have hall : ([22, 22].all fun u => !Tryd.prog.wantsStandIn u) = true := by kernel_rfl
        exact (show Tryd.prog.wantsStandIn t = false by simpa using List.all_eq_true.1 hall t hm)⟩)
    (by kernel_rfl)
#print axioms card
end Go.Proofs.YtfngcejaphhmmaaDoor.fnFormatTask
namespace Go.Proofs.YtfngcejaphhmmaaDoor
theorem fnFormatTask_holds : Rows.FnFormatTaskCardSaid := fnFormatTask.card
end Go.Proofs.YtfngcejaphhmmaaDoor
