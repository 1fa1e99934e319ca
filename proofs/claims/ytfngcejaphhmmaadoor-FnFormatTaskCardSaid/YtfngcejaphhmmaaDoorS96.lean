import Derived.Test.YtfngcejaphhmmaaDoorShelf
import Derived.Test.YtfngcejaphhmmaaDoorM53
import Derived.Test.YtfngcejaphhmmaaDoorC1
namespace Go.Proofs
open Go.Shelf Go.RowKit Go.Lib
section
variable {P : Program} {ρ : Ren}
set_option maxHeartbeats 1000000 in
theorem YtfngcejaphhmmaaDoor.split_one (L : Lays.n146 P ρ) (hi9 : (P.info? (ρ.t 9)).map (fun i => (i.zero, i.size, i.bytes)) = some (some (.string ByteArray.empty), 1, 16)) (s : ByteArray) (c : UInt8) (w : World) (hs : s.size < 4294967281) :
    Calls P (ρ.f 146) #[.string s, .string ⟨#[c]⟩] w fun e w' =>
      e = .returned (.slice (some ⟨w.heap.size, 0, none⟩) (Lib.countB s ⟨#[c]⟩ + 1) (Lib.countB s ⟨#[c]⟩ + 1)) ∧ w' = w.alloc (.cells ((Lib.splitB ⟨#[c]⟩ 0 (Lib.countB s ⟨#[c]⟩) s).map Value.string).toArray (ρ.t 9)) := by
  have h1 : 1 ≤ (ByteArray.mk #[c]).size := Nat.le_refl _
  have hle := Lib.countB_le ⟨#[c]⟩ h1 s.size s (Nat.le_refl _)
  have hlen := Lib.splitB_all ⟨#[c]⟩ h1 0 _ s rfl
  have hI : ∀ (x : ByteArray) (C : Array Value), x.size ≤ s.size → Calls P (ρ.f 143) #[.string x, .string ⟨#[c]⟩] (w.alloc (.cells C (ρ.t 9))) fun e w' => e = .returned (.int .i64 (Lib.indexB x ⟨#[c]⟩)) ∧ w' = w.alloc (.cells C (ρ.t 9)) := fun x C _ => by
    refine (Any.strings_Index_one { L with } x c _).mono fun e w' ⟨he, hw⟩ => ⟨?_, hw⟩
    rw [he]
    show Ending.returned (Value.int .i64 (Lib.indexByte x.data.toList c)) = .returned (.int .i64 (Lib.index x.data.toList [c]))
    rw [Lib.index_one]
  have hC : Calls P (ρ.f 138) #[.string s, .string ⟨#[c]⟩] w fun e w' => e = .returned (.int .i64 (Lib.countB s ⟨#[c]⟩)) ∧ w' = w := by
    refine (Any.strings_Count_one { L with } s c w).mono fun e w' ⟨he, hw⟩ => ⟨?_, hw⟩
    rw [he]
    show _ = Ending.returned (Value.int .i64 ((Lib.count s.data.toList [c] : Nat) : Int))
    rw [Lib.count_one]
    rfl
  have C := Any.strings_genSplit_core { L with } hi9 s ⟨#[c]⟩ 0 (-1) (Lib.countB s ⟨#[c]⟩ + 1) w hs h1 (Nat.zero_le _) hI hC (by decide) (by decide) (by rw [if_pos (by decide)]; omega)
  rw [Nat.add_sub_cancel, hlen] at C
  have e2 : Lib.cellsOf (Lib.splitB ⟨#[c]⟩ 0 (Lib.countB s ⟨#[c]⟩) s) (Lib.countB s ⟨#[c]⟩ + 1) = ((Lib.splitB ⟨#[c]⟩ 0 (Lib.countB s ⟨#[c]⟩) s).map Value.string).toArray := by rw [← hlen]; exact Lib.cellsOf_full _
  rw [e2] at C
  have t3 := L.t3; have t9 := L.t9; have t31 := L.t31
  have a3 := L.a3; have a9 := L.a9; have a31 := L.a31
  have z3 := L.z3; have v3 := L.v3; have z9 := L.z9; have v9 := L.v9; have z31 := L.z31; have v31 := L.v31
  have e221 : ∀ args w, (callFunc (ρ.f 221) args).run P w = .ok (.enter (ρ.f 221) args) w := enters_of L.f221 (by kernel_rfl) rfl
  go_enter L.f146, Body.n146_ntmps ρ
  go_wp2_with (go_at_fn (ρ.f 221); refine C.mono ?_; rintro e w' ⟨rfl, hw⟩; rw [hw])
  go_ret
  exact ⟨rfl, rfl⟩
end
end Go.Proofs
namespace Go.Abs
open Go.RowKit
theorem law_callsG {P : Program} {f : FuncId} {args : List AV} {rows : List (List AV)} {vs : List Value} {W : World} {b : Nat} {ev : Value} (h : CallWp P f args (rows.map .ro ++ [.gl b ev]) fun x _ => x = .b true) (ρ : Pl)
    (hb : ∀ n row, rows[n]? = some row → Holds ρ (rows.length + 1) W (ρ n) (.ro row)) (hρ : ρ rows.length = (b, 0)) (hg : ∃ c T fr, W.heap[b]? = some (.cells c T fr) ∧ c[0]? = some ev) (hv : M1s ρ (rows.length + 1) args vs) : Calls P f vs.toArray W fun e W' => e = .returned (.bool true) ∧ Below W.heap.size W W' := by
  have hlen : (rows.map AB.ro ++ [AB.gl b ev]).length = rows.length + 1 := by simp
  have split : ∀ n B, (rows.map AB.ro ++ [AB.gl b ev])[n]? = some B → (∃ row, rows[n]? = some row ∧ B = .ro row) ∨ (n = rows.length ∧ B = .gl b ev) := by
    intro n B hn
    rcases Nat.lt_or_ge n rows.length with hlt | hge
    · rw [List.getElem?_append_left (by simpa using hlt), List.getElem?_map, List.getElem?_eq_getElem hlt] at hn
      exact .inl ⟨rows[n], List.getElem?_eq_getElem hlt, (Option.some.inj hn).symm⟩
    · rw [List.getElem?_append_right (by simpa using hge), List.length_map] at hn
      have hn0 : n - rows.length = 0 := by
        have := (List.getElem?_eq_some_iff.1 hn).1
        simpa using this
      rw [hn0] at hn
      exact .inr ⟨by omega, (Option.some.inj hn).symm⟩
  have hs : Sim ⟨fun b => W.heap[b]?, W.os, W.tape, W.output, W.heap.size⟩ ρ (rows.map .ro ++ [.gl b ev]) W := by
    refine ⟨rfl, rfl, rfl, Nat.le_refl _, fun _ _ h => h, ?_, ?_⟩
    · intro n B hn
      rw [hlen]
      rcases split n B hn with ⟨row, hr, rfl⟩ | ⟨rfl, rfl⟩
      · exact hb n row hr
      · refine ⟨hρ, ?_⟩
        rw [hρ]; exact hg
    · intro n B0 hn hW
      rcases split n B0 hn with ⟨row, _, rfl⟩ | ⟨_, rfl⟩ <;> exact hW.elim
  refine (h.2 _ ρ W vs hs (by rw [hlen]; exact hv)).mono ?_
  rintro e W' ⟨v, x, σ', ρ', rfl, hs', hl, he, hm, rfl⟩
  refine ⟨by rw [hm.bool], hs'.os, hs'.tape, hs'.out, hs'.sz, fun k hk => ?_⟩
  obtain ⟨o, ho⟩ : ∃ o, W.heap[k]? = some o := ⟨_, Array.getElem?_eq_getElem hk⟩
  rw [ho]
  exact hs'.fr k o ho
end Go.Abs
namespace Go.Proofs.YtfngcejaphhmmaaDoor
open Go.Abs Go.Ds
set_option linter.unusedSimpArgs false
set_option linter.unusedVariables false
set_option maxRecDepth 20000
set_option maxHeartbeats 1000000
def encStr : Enc (List UInt8) := ⟨fun l => [.s (bs l)], 1, fun _ => rfl, fun _ => rfl⟩
theorem Sim.below {F : Fr} {ρ : Pl} {σ : List AB} {w w' : World} (h : Sim F ρ σ w) (hb : RowKit.Below w.heap.size w w') : Sim F ρ σ w' :=
  h.beside hb.os hb.tape hb.output hb.size hb.block
theorem strconv_Itoa_ (n : Int) (h0 : 0 ≤ n) (h1 : n < 100) {σ : List AB} {K : AV → List AB → Prop} (hk : K (.s (bs (decI n))) σ) : CallWp Tryd.prog n_strconv_Itoa [.i .i64 n] σ K := by
  refine ⟨⟨_, lays171.f171, by kernel_rfl, by kernel_rfl⟩, fun F ρ w vs hs hv => ?_⟩
  match vs, hv with
  | [v], hv =>
    have hv0 : v = .int .i64 n := by have := hv.1; simpa [M1, MC] using this
    subst hv0
    have c := Any.strconv_Itoa_small lays171 n.toNat (by omega) w
    rw [show ((n.toNat : Nat) : Int) = n by omega] at c
    refine Calls.mono (P := Tryd.prog) (f := n_strconv_Itoa) c ?_
    rintro e w' ⟨rfl, rfl⟩
    exact ⟨_, .s (bs (decI n)), σ, ρ, rfl, hs, Nat.le_refl _, fun _ _ => rfl, by simp [M, M1, MC, bs], hk⟩
theorem split_vals {ρ : Pl} {N : Nat} : ∀ (l : List ByteArray), MCs ρ N (encStr.row (l.map (·.data.toList))) (l.map Value.string)
  | [] => trivial
  | a :: l => by
    have h : encStr.row ((a :: l).map (·.data.toList)) = .s (bs a.data.toList) :: encStr.row (l.map (·.data.toList)) := rfl
    rw [h, bs_of]
    exact ⟨by simp [MC], split_vals l⟩
theorem strings_Split_ (l : List UInt8) (hl : l.length < 4294967281) {σ : List AB} {K : AV → List AB → Prop} (hk : K (.sl σ.length 0 (fields l).length (fields l).length) (σ ++ [.rw ty_string (encStr.row (fields l)) (fields l).length])) :
    CallWp Tryd.prog n_strings_Split [.s (bs l), .s (bs [32])] σ K := by
  refine ⟨⟨_, lays146.f146, by kernel_rfl, by kernel_rfl⟩, fun F ρ w vs hs hv => ?_⟩
  match vs, hv with
  | [v, u], hv =>
    have hv0 : v = .string (bs l) := by have := hv.1; simpa [M1, MC] using this
    have hu0 : u = .string ⟨#[32]⟩ := by have := hv.2.1; simpa [M1, MC, bs] using this
    subst hv0 hu0
    have c := split_one lays146 (by kernel_rfl) (bs l) 32 w (by rw [bs_size]; exact hl)
    have hmap : (Lib.splitB ⟨#[32]⟩ 0 (Lib.countB (bs l) ⟨#[32]⟩) (bs l)).map (·.data.toList) = fields l := by
      rw [Lib.splitB_data]
      show Lib.splitK [32] 0 (Lib.count (bs l).data.toList [32]) (bs l).data.toList = _
      rw [bs_data, split_fields]
    have hcnt : Lib.countB (bs l) ⟨#[32]⟩ + 1 = (fields l).length := by
      have := Lib.splitB_all ⟨#[32]⟩ (Nat.le_refl _) 0 _ (bs l) rfl
      rw [← this, ← hmap, List.length_map]
    rw [hcnt] at c
    refine Calls.mono (P := Tryd.prog) (f := n_strings_Split) c ?_
    rintro e w' ⟨rfl, rfl⟩
    have ha := hs.alloc ty_string (encStr.row (fields l)) _ [] (by rw [← hmap]; exact split_vals _)
    simp only [List.append_nil, List.length_nil, Nat.add_zero] at ha
    rw [show ((Lib.splitB ⟨#[32]⟩ 0 (Lib.countB (bs l) ⟨#[32]⟩) (bs l)).map Value.string).length = (fields l).length by rw [← hmap]; simp] at ha
    refine ⟨_, _, _, plus ρ σ.length (w.heap.size, 0), rfl, ha, by simp, fun n hn => plus_old _ _ _ hn, ?_, hk⟩
    simp only [M, M1, MC]
    exact ⟨by simp, Nat.le_refl _, .inl (by simp [ad, plus_new])⟩
theorem strconv_Atoi_ (l : List UInt8) (hl : l.length ≤ 18) {σ : List AB} {g : Nat} {ev : Value} (hg : σ[g]? = some (.gl (laysC172_ren.g 15) ev)) (hev : ev = .nilIface ∨ ∃ te pe, ev = .iface te pe) {K : AV → List AB → Prop}
    (hs : ∀ n, Lib.atoi l = some n → K (.tup [.i .i64 n, .ex .nilIface]) σ) (hn : Lib.atoi l = none → ∀ t v, K (.tup [.i .i64 0, .ex (.iface t v)]) σ) : CallWp Tryd.prog n_strconv_Atoi [.s (bs l)] σ K := by
  refine ⟨⟨_, lays172.f172, by kernel_rfl, by kernel_rfl⟩, fun F ρ w vs hsim hv => ?_⟩
  match vs, hv with
  | [v], hv =>
    have hv0 : v = .string (bs l) := by have := hv.1; simpa [M1, MC] using this
    subst hv0
    cases h : Lib.atoi l with
    | some n =>
      have c := Any.strconv_Atoi lays172 (bs l) n (by rw [bs_size]; exact hl) (by rw [bs_data]; exact h) w
      refine Calls.mono (P := Tryd.prog) (f := n_strconv_Atoi) c ?_
      rintro e w' ⟨rfl, t, rfl⟩
      exact ⟨_, .tup [.i .i64 n, .ex .nilIface], σ, ρ, rfl, Sim.below hsim (Lib.bytesWorld_below w _ t), Nat.le_refl _, fun _ _ => rfl, ⟨[.int .i64 n, .nilIface], rfl, by simp [M1s, M1, MC, Value.oneCell']⟩, hs n h⟩
    | none =>
      obtain ⟨ha, cc, T, fr, hc, hc0⟩ := hsim.bl g _ hg
      have hcell : w.cell? ⟨laysC172_ren.g 15, 0, none⟩ = some ev := by
        rw [ha] at hc
        simp [World.cell?, hc, hc0]
      have c := Any.strconv_Atoi_err laysC172 (bs l) (by rw [bs_size]; exact hl) (by rw [bs_data]; exact h) ev w hcell hev
      refine Calls.mono (P := Tryd.prog) (f := n_strconv_Atoi) c ?_
      rintro e w' ⟨N, rfl, _, _, hb⟩
      exact ⟨_, .tup [.i .i64 0, .ex (.iface (laysC172_ren.t 168) (.pointer (some ⟨N, 0, none⟩)))], σ, ρ, rfl, Sim.below hsim hb, Nat.le_refl _, fun _ _ => rfl, ⟨[_, _], rfl, by simp [M1s, M1, MC, Value.oneCell']⟩, hn h _ _⟩
end Go.Proofs.YtfngcejaphhmmaaDoor
