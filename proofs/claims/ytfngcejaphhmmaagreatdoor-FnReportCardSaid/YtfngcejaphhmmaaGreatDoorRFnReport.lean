/- The law FnReport holds, and its card: for every input that the row admits its call returns true and leaves its arguments as they were. Condition: the listed package-level variables hold what the program's text lays (the given tie). -/
import Derived.Test.YtfngcejaphhmmaaGreatDoorRows
import Derived.Test.YtfngcejaphhmmaaGreatDoorCards
import Derived.Test.YtfngcejaphhmmaaGreatDoorTie
import Derived.Test.YtfngcejaphhmmaaGreatDoorV47
import Derived.Test.YtfngcejaphhmmaaGreatDoorAbsY
import Derived.WalkKit
import Derived.ProofKit
import Derived.OpenShut
import Derived.Below
import Derived.Carry
import Derived.SizedLaws
import Derived.KernelRfl
import Derived.LaidLaws
import Derived.Stop.LaidErr
import Derived.Lay
import Derived.MakeChecks
import Derived.SevenTiedAt
import Derived.Stop.Joined
namespace Go.Proofs.YtfngcejaphhmmaaGreatDoor.fnReport
open Go.ChangeShapes Go.WideShapes Go.ChangeAt Go.RowKit Go.Abs Go.Ds
set_option linter.unusedVariables false
set_option linter.unusedSimpArgs false
theorem own : ownKnob Tryz.prog.godebug = none := by kernel_rfl
theorem laidOut : laidOutB Tryz.prog = true := by kernel_rfl
theorem gES : Tryz.prog.globalNamed "strconv.ErrSyntax" = some 0 := by kernel_rfl
theorem gESType : (Tryz.prog.globals[0]?).map (·.type) = some 52 := by kernel_rfl
theorem cellsE : Tryz.prog.cellsOf 123 = 1 := by kernel_rfl
theorem cellsS : Tryz.prog.cellsOf 9 = 1 := by kernel_rfl
theorem star : "*" ++ "errors.errorString" = "*errors.errorString" := by decide
theorem rowE (u : TypeId) (h : Tryz.prog.typeName? 3 u = some "*errors.errorString") : u = 121 :=
  typeName_ptr_named (nm := "errors.errorString") (by rw [star]; kernel_rfl) (by kernel_rfl) (by decide) u (by rw [star]; exact h)
theorem errCell {W : World} (h : laidMetH Tryz.prog Rows.fnReportRow.laid W) : ∃ a : Addr, ∃ T fr, W.heap[0]? = some (.cells (Value.iface 121 (.pointer (some a))).cells T fr) := by
  rw [MakeChecks.laidMetH_plain _ _ _ (by kernel_rfl)] at h
  obtain ⟨a, s, hv, _⟩ := laid_sentinel h.tail.tail.tail.tail.tail gES gESType Tryz.underlying52 rowE Tryz.underlying121 Tryz.underlying123 rfl rfl Tryz.underlying9 cellsE cellsS
  have h0 := World.var?_cell gES hv 0
  refine ⟨a, ?_⟩
  unfold World.var? at hv
  rw [gES] at hv
  simp only [Option.bind_some] at hv
  split at hv
  · rename_i cs T fr hh
    obtain rfl := Option.some.inj hv
    exact ⟨T, fr, hh⟩
  · cases hv
theorem gPT : Tryz.prog.globalNamed "internal/strconv.uint64pow10" = some 2 := by kernel_rfl
theorem gPTType : (Tryz.prog.globals[2]?).map (·.type) = some 114 := by kernel_rfl
theorem tabData_eq : (Rows.laid_internal_strconv_uint64pow10 : DataW Unit) = Lib.tabData .u64 Lib.pow10Tab := by rfl
theorem tabCell {W : World} (h : laidMetH Tryz.prog Rows.fnReportRow.laid W) : ∃ T fr, W.heap[2]? = some (.cells tabV.cells T fr) := by
  rw [MakeChecks.laidMetH_plain _ _ _ (by kernel_rfl)] at h
  have h1 := h.tail.tail
  rw [tabData_eq] at h1
  have hv : Lib.TabIs Tryz.prog W "internal/strconv.uint64pow10" .u64 Lib.pow10Tab := Lib.tabIs_of_head gPT gPTType Tryz.underlying114 Tryz.underlying93 (by kernel_rfl) (by kernel_rfl) h1
  unfold Lib.TabIs World.var? at hv
  rw [gPT] at hv
  simp only [Option.bind_some] at hv
  split at hv
  · rename_i cs T fr hh
    obtain rfl := Option.some.inj hv
    exact ⟨T, fr, hh⟩
  · cases hv
set_option maxRecDepth 100000 in
theorem lifted (os : Os) (started : os.Started) (H : Type) (enc : TypeId × Value → H) :
    ReturnsInHanded {} Tryz.checked os 3 .any (fun w args => (Rows.fnReportSpec.pre enc Tryz.prog Tryz.f3 Rows.fnReportRow.domain false w args ∧ laidMetH Tryz.prog Rows.fnReportRow.laid w) ∧ sizedMet enc Tryz.prog Tryz.f3 (OpenSpec.ofChange Rows.fnReportSpec) false w args)
      (Rows.fnReportSpec.post enc Tryz.prog Tryz.f3 false true false false) := by
  refine returnsInHanded_of_change_and (C := Tryz.checked) (X := fun w _ => laidMetH Tryz.prog Rows.fnReportRow.laid w) (fun _ _ _ hh h => h.of_heap hh) own started (by kernel_rfl) Tryz.func3
    (ChangeSpec.witness_shaped (enc := enc) (C := Tryz.checked) (os := os) (X := fun w _ => laidMetH Tryz.prog Rows.fnReportRow.laid w) false (World.laidAll Tryz.prog os Rows.fnReportRow.laid) #[.slice none 0 0] 8 (World.laidAll_os _ _ _)
      (World.shaped_of_ZipB (by kernel_rfl) (by kernel_rfl)) (by kernel_rfl) (by kernel_rfl) (by kernel_rfl)
      (by rw [MakeChecks.laidMetH_plain _ _ _ (by kernel_rfl)]; exact laidMet_laidAll _ (by kernel_rfl) (by kernel_rfl))) ?_
  intro W base args ds gs before hval0 hW hcnd hsz0 hL _
  have hsz : (DataW.weightsEach Tryz.prog (Tryz.f3.params.toList ++ Rows.fnReportSpec.plain.varTypes Tryz.prog) (ds ++ gs)).all (· ≤ reachBytes) = true := hsz0
  have hval : ∀ (j : Nat) t v, Tryz.f3.params[j]? = some t → args[j]? = some v → Value.okWide Tryz.prog W .any base t v := hval0
  have hW' := hW
  obtain ⟨p, q, hA0, hV, rfl, hfz, hnd⟩ := hW
  have hA : DataW.TrodAll enc Tryz.prog W 0 (fun _ => true) true Tryz.f3.params.toList args.toList ds p := hA0
  rw [Tryz.params3] at hA hval hsz
  obtain ⟨v0, vs0, d0, ds0, p0, q0, hargs, rfl, rfl, h0, r0⟩ := trodAll_cons hA
  obtain ⟨rfl, rfl, rfl⟩ := trodAll_nil r0
  obtain rfl : args = #[v0] := by cases args; simp_all
  obtain ⟨rfl, rfl⟩ := trodVars_none hV
  have lt0 : ∀ x ∈ p0, x.block < W.heap.size := by obtain ⟨m, hm⟩ := h0; exact DataW.trod_lt m _ _ _ hm
  obtain ⟨L0, cap0, w0, ok0, y0, z0⟩ := open_flat encByte (by decide) (ok := fun x : Nat => x < 256) (B := 1) (j := 0) (t := 22) (e := 5) Tryz.underlying22 (by kernel_rfl) (by kernel_rfl) (open_u8 Tryz.underlying5) (hval 0 22 v0 rfl rfl) hsz rfl rfl h0
  obtain ⟨a0, m0, b0⟩ := w0.holds
  clear hA0 hval0 hsz0 hsz
  obtain ⟨ae, hce⟩ := errCell hL
  have hc := c_FnReport L0 cap0 ok0 (ev := .iface 121 (.pointer (some ae))) (.inr ⟨_, _, rfl⟩)
  have hct := tabCell hL
  refine (law_callsGs (rows := [encByte.row L0]) (gs := [(0, .iface 121 (.pointer (some ae))), (2, tabV)]) (vs := [v0]) hc (fun n => if n = 0 then a0 else if n = 1 then (0, 0) else if n = 2 then (2, 0) else (0, 0)) ?_ (fun i g h => by match i, h with | 0, h => cases h; rfl | 1, h => cases h; rfl | i + 2, h => simp at h) (fun g h => by simp only [List.mem_cons, List.not_mem_nil, or_false] at h; rcases h with rfl | rfl <;> first | exact hce | exact hct) ⟨m0 _ _ 0 (by simp) rfl, trivial⟩).mono fun e W' ⟨he, bel⟩ => ?_
  · intro n row hn
    match n, hn with
    | 0, hn => cases hn; exact b0 _ _
    | n + 1, hn => simp at hn
  subst he
  exact ⟨_, rfl, _, _, _, [], _, [], hW', trodAll_mk1 (shut_bool Tryz.underlying4 _), (trodAll_cons_mk (Below.trod laidOut (by kernel_rfl) (of_decide_eq_true (by kernel_rfl)) h0 bel lt0) trodAll_mk0), rfl, bel.frame _, fun h => by cases h⟩
theorem over : Rows.fnReportRow.holds Tryz.pinned (OpenSpec.ofChange Rows.fnReportSpec) :=
  OpenClaim.holds_of_wide 3 Tryz.f3 rfl rfl rfl rfl rfl rfl rfl ⟨rfl, rfl, rfl, rfl, rfl⟩ rfl rfl rfl rfl rfl (by kernel_rfl) Tryz.func3 (by kernel_rfl)
    (of_decide_eq_true (by kernel_rfl)) (by unfold Func.isWrapper; first | (rw [if_pos (by decide +kernel)]; kernel_rfl) | (rw [if_neg (by decide +kernel)]; exact ⟨rfl, rfl⟩))
    (fun os started H enc _ => lifted os started H enc)
theorem card : Rows.FnReportCardSaid :=
  Claim7.holds_tied_plain_at .later [] [.data, .data, .data, .data, .sentinel, .sentinel, .pinned] true (true, "0ff6b404dcf94661150660fe559fb78d56fcd949b18a0f21afbd20c93019c72a") true
    over (fun _ h => by cases h) (by kernel_rfl) (fun _ h => by cases h) fnReport_row_tie rfl ⟨rfl, rfl⟩ (by kernel_rfl) rfl
    (fun f fn hf hfn => by
      obtain rfl : f = 3 := Option.some.inj ((show Tryz.prog.funcNamed "loop.example/deadlinescheduler/laws.FnReport" = some 3 by kernel_rfl).symm.trans hf) |>.symm
      obtain rfl : fn = Tryz.f3 := (Option.some.inj (Tryz.func3.symm.trans hfn)).symm
      exact ⟨by kernel_rfl, fun j t ht => by
        rw [Tryz.params3] at ht
        have hm : t ∈ [22] := by simpa using Array.mem_of_getElem? ht
        have hall : ([22].all fun u => !Tryz.prog.wantsStandIn u) = true := by kernel_rfl
        exact (show Tryz.prog.wantsStandIn t = false by simpa using List.all_eq_true.1 hall t hm)⟩)
    (by kernel_rfl)
#print axioms card
end Go.Proofs.YtfngcejaphhmmaaGreatDoor.fnReport
namespace Go.Proofs.YtfngcejaphhmmaaGreatDoor
theorem fnReport_holds : Rows.FnReportCardSaid := fnReport.card
end Go.Proofs.YtfngcejaphhmmaaGreatDoor
