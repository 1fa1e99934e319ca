/- From a law's arguments to the abstract heap and back: slices of plain elements opened, and what the call leaves. -/
import Derived.Test.YtgnlibnnpipbhaaAbsM
import Derived.ProofKit
import Derived.Below
import Derived.Carry
import Derived.SizedLaws
import Derived.Deep.Slices
namespace Go.Abs
open Go.RowKit Go.ChangeShapes Go.WideShapes Go.Deep
set_option linter.unusedVariables false
set_option linter.unusedSimpArgs false

theorem MC_flat {ρ ρ' : Pl} {N N' : Nat} {x : AV} {v : Value} (hf : flat x = true) (h : MC ρ N x v) : MC ρ' N' x v := by
  cases x <;> first | exact h | cases hf

/-- A law that answers true at the abstract heap does so at the machine's, and leaves all that was there. -/
theorem law_calls {P : Program} {f : FuncId} {args : List AV} {rows : List (List AV)} {vs : List Value} {W : World} (h : CallWp P f args (rows.map .ro) fun x _ => x = .b true) (ρ : Pl)
    (hb : ∀ n row, rows[n]? = some row → Holds ρ rows.length W (ρ n) (.ro row)) (hv : M1s ρ rows.length args vs) : Calls P f vs.toArray W fun e W' => e = .returned (.bool true) ∧ Below W.heap.size W W' := by
  have hs : Sim ⟨fun b => W.heap[b]?, W.os, W.tape, W.output, W.heap.size⟩ ρ (rows.map .ro) W := by
    refine ⟨rfl, rfl, rfl, Nat.le_refl _, fun _ _ h => h, ?_, ?_⟩
    · intro n B hn
      rw [List.getElem?_map] at hn
      cases hr : rows[n]? with
      | none => rw [hr] at hn; cases hn
      | some row =>
        rw [hr] at hn
        simp only [Option.map_some, Option.some.injEq] at hn
        subst hn
        rw [List.length_map]
        exact hb n row hr
    · intro n B0 hn hW
      rw [List.getElem?_map] at hn
      cases hr : rows[n]? with
      | none => rw [hr] at hn; cases hn
      | some row => rw [hr] at hn; cases hn; exact hW.elim
  refine (h.2 _ ρ W vs hs (by rw [List.length_map]; exact hv)).mono ?_
  rintro e W' ⟨v, x, σ', ρ', rfl, hs', hl, he, hm, rfl⟩
  refine ⟨by rw [hm.bool], hs'.os, hs'.tape, hs'.out, hs'.sz, fun k hk => ?_⟩
  obtain ⟨o, ho⟩ : ∃ o, W.heap[k]? = some o := ⟨_, Array.getElem?_eq_getElem hk⟩
  rw [ho]
  exact hs'.fr k o ho

section
variable {H : Type} {enc : TypeId × Value → H} {P : Program} {w : World} {base : Nat} {spare : Nat → Bool} {held : Bool}

theorem field_int {fs : Array Field} {k : IntKind} {t : TypeId} {n : Nat} {cs : List Value} {y : DataW H × List MemPlace} (he : P.underlying t = some (.struct fs)) (h : DataW.trod enc P w base spare held n t cs = some y) (i : Nat) {f : Field} (hf : fs[i]? = some f)
    (ht : P.underlying f.type = some (.int k)) (hc : P.cellsOf f.type = 1) : ∃ x, cs[f.offset]? = some (.int k x) ∧ (Lit.int k x).wf = true := by
  obtain ⟨xs, m, _, _, _, hl, hx⟩ := DataW.trod_struct he h
  have := hx i f hf
  have hi : i < xs.length := by rw [hl]; exact (Array.getElem?_eq_some_iff.1 hf).1
  rw [List.getElem?_eq_getElem hi, hc] at this
  obtain ⟨x, hx1, _, hw⟩ := DataW.trod_int ht this
  refine ⟨x, ?_, hw⟩
  have h0 : ((cs.drop f.offset).take 1)[0]? = some (.int k x) := by rw [hx1]; rfl
  rw [List.getElem?_take, if_pos (by omega), List.getElem?_drop] at h0
  simpa using h0

theorem field_bool {fs : Array Field} {t : TypeId} {n : Nat} {cs : List Value} {y : DataW H × List MemPlace} (he : P.underlying t = some (.struct fs)) (h : DataW.trod enc P w base spare held n t cs = some y) (i : Nat) {f : Field} (hf : fs[i]? = some f)
    (ht : P.underlying f.type = some .bool) (hc : P.cellsOf f.type = 1) : ∃ x, cs[f.offset]? = some (.bool x) := by
  obtain ⟨xs, m, _, _, _, hl, hx⟩ := DataW.trod_struct he h
  have := hx i f hf
  have hi : i < xs.length := by rw [hl]; exact (Array.getElem?_eq_some_iff.1 hf).1
  rw [List.getElem?_eq_getElem hi, hc] at this
  obtain ⟨x, hx1, _⟩ := DataW.trod_bool ht this
  refine ⟨x, ?_⟩
  have h0 : ((cs.drop f.offset).take 1)[0]? = some (.bool x) := by rw [hx1]; rfl
  rw [List.getElem?_take, if_pos (by omega), List.getElem?_drop] at h0
  simpa using h0

/-- The cells are those of x. -/
def IsEl {α : Type} (E : Enc α) (x : α) (cs : List Value) : Prop := ∀ (j : Nat) (a : AV), (E.f x)[j]? = some a → ∃ u : Value, cs[j]? = some u ∧ MC (fun _ => (0, 0)) 0 a u

/-- An argument that is a slice of plain elements. -/
def IsRow {α : Type} (E : Enc α) (W : World) (v : Value) (L : List α) (cap : Nat) : Prop :=
  (v = .slice none 0 0 ∧ L = [] ∧ cap = 0) ∨ ∃ b o, v = .slice (some ⟨b, o, none⟩) L.length cap ∧ L.length ≤ cap ∧ (E.row L ≠ [] → ∃ c T fr, W.heap[b]? = some (.cells c T fr) ∧ Cells (fun _ => (0, 0)) 0 c o (E.row L))

theorem addr_add (b o x y : Nat) : (((⟨b, o, none⟩ : Addr).add x).add y) = ⟨b, o + x + y, none⟩ := by
  unfold Addr.add
  by_cases hx : x = 0
  · by_cases hy : y = 0
    · simp [hx, hy]
    · simp [hx, hy]
  · by_cases hy : y = 0
    · simp [hx, hy]
    · simp [hx, hy]

theorem open_flat {α : Type} [Inhabited α] (E : Enc α) (hk : 0 < E.k) {ok : α → Prop} {t e : TypeId} {v : Value} {d : DataW H} {ps : List MemPlace} {ts : List TypeId} {ds : List (DataW H)} {j : Nat} {B : Nat}
    (ht : P.underlying t = some (.slice e)) (hc : P.cellsOf e = E.k) (hB : P.bytesOf e = B) (hel : ∀ n cs y, cs.length = E.k → DataW.trod enc P w 0 spare held n e cs = some y → ∃ x, ok x ∧ IsEl E x cs)
    (hok : Value.okWide P w .any base t v) (hsz : (DataW.weightsEach P ts ds).all (· ≤ reachBytes) = true) (htj : ts[j]? = some t) (hdj : ds[j]? = some d) (h : DataW.Trod enc P w 0 spare held t v d ps) :
    ∃ (L : List α) (cap : Nat), IsRow E w v L cap ∧ (∀ x ∈ L, ok x) ∧ L.length * B ≤ 140737488351232 ∧ L.length ≤ cap := by
  obtain ⟨a, len, cap, rfl⟩ := okWide_slice ht hok
  obtain ⟨fuel, hf⟩ := h
  rcases open_slice ht hf with ⟨h0, _⟩ | ⟨a', len', cap', m, n, D, Pl, h0, _, hl, hm, hmm, hx, hi⟩
  · simp [Value.cells] at h0
    obtain ⟨rfl, rfl, rfl⟩ := h0
    exact ⟨[], 0, .inl ⟨rfl, rfl, rfl⟩, by simp, by simp, Nat.le_refl _⟩
  · simp [Value.cells] at h0
    obtain ⟨rfl, rfl, rfl⟩ := h0
    simp only [Value.okWide, ht, Cell.okWide, Cell.ok] at hok
    obtain ⟨_, _, _, hspot, _⟩ := hok
    obtain ⟨b, o, sp⟩ := a'
    simp only at hspot
    subst hspot
    have hlm : len ≤ m := by rw [hmm]; split <;> omega
    have each : ∀ i, i < len → ∃ x, ok x ∧ ∀ j a, (E.f x)[j]? = some a → ∃ u, w.cell? ⟨b, o + i * E.k + j, none⟩ = some u ∧ MC (fun _ => (0, 0)) 0 a u := by
      intro i hi'
      obtain ⟨cs', h1, h2⟩ := hi i (by omega)
      rw [hc] at h1
      obtain ⟨_, hlen, hcell⟩ := World.cells?_some h1
      obtain ⟨x, hx1, hx2⟩ := hel n cs' _ hlen h2
      refine ⟨x, hx1, fun j a ha => ?_⟩
      obtain ⟨u, hu, hm⟩ := hx2 j a ha
      have hj : j < E.k := by rw [← E.len x]; exact (List.getElem?_eq_some_iff.1 ha).1
      refine ⟨u, ?_, hm⟩
      rw [← hu, ← hcell j hj, addr_add]
    obtain ⟨g, hg⟩ := choose_lt each
    have hLlen : ((List.range len).map g).length = len := by simp
    have hLat : ∀ i (h : i < ((List.range len).map g).length), ((List.range len).map g)[i] = g i := by intro i h; simp
    refine ⟨(List.range len).map g, cap, .inr ⟨b, o, by rw [hLlen], by rw [hLlen]; exact hl, fun hne => ?_⟩, ?_, ?_, by rw [hLlen]; exact hl⟩
    · have key : ∀ q a, (E.row ((List.range len).map g))[q]? = some a → ∃ u, w.cell? ⟨b, o + q, none⟩ = some u ∧ MC (fun _ => (0, 0)) 0 a u := by
        intro q a hq
        have hqlt := (List.getElem?_eq_some_iff.1 hq).1
        rw [E.row_length, hLlen] at hqlt
        have hdiv : q / E.k < len := (Nat.div_lt_iff_lt_mul hk).2 hqlt
        have hmod := Nat.mod_lt q hk
        have hsum : q = q / E.k * E.k + q % E.k := by rw [Nat.mul_comm]; exact (Nat.div_add_mod q E.k).symm
        have hw := E.win ((List.range len).map g) (q / E.k) (by rw [hLlen]; exact hdiv)
        rw [hLat] at hw
        have ha : (E.f (g (q / E.k)))[q % E.k]? = some a := by
          rw [← hw, Abs.win, List.getElem?_take, if_pos hmod, List.getElem?_drop, ← hsum]
          exact hq
        obtain ⟨u, h1, h2⟩ := (hg (q / E.k) hdiv).2 _ a ha
        refine ⟨u, ?_, h2⟩
        rw [← h1, show o + q / E.k * E.k + q % E.k = o + q from by omega]
      have : ∃ c T fr, w.heap[b]? = some (.cells c T fr) := by
        cases hr : E.row ((List.range len).map g) with
        | nil => exact absurd hr hne
        | cons a r =>
          obtain ⟨u, h1, _⟩ := key 0 a (by rw [hr]; rfl)
          simp only [World.cell?] at h1
          split at h1
          · rename_i c T fr hh; exact ⟨c, T, fr, hh⟩
          · cases h1
      obtain ⟨c, T, fr, hh⟩ := this
      refine ⟨c, T, fr, hh, fun q a hq => ?_⟩
      obtain ⟨u, h1, h2⟩ := key q a hq
      refine ⟨u, ?_, h2⟩
      simpa [World.cell?, hh] using h1
    · intro x hx
      obtain ⟨i, hi', rfl⟩ := List.mem_map.1 hx
      exact (hg i (List.mem_range.1 hi')).1
    · rw [hLlen]
      obtain ⟨hx1, _⟩ := Prod.mk.inj hx
      rw [hx1] at hdj
      have z := sized_slice hsz htj hdj ht
      rw [hB] at z
      refine Nat.le_trans (Nat.mul_le_mul_right _ ?_) z
      simp
end

/-- An opened slice as a block of the abstract heap. -/
theorem IsRow.holds {α : Type} {E : Enc α} {W : World} {v : Value} {L : List α} {cap : Nat} (h : IsRow E W v L cap) :
    ∃ a : Nat × Nat, (∀ (ρ : Pl) N n, n < N → ρ n = a → M1 ρ N (.sl n 0 L.length cap) v) ∧ ∀ (ρ : Pl) N, Holds ρ N W a (.ro (E.row L)) := by
  rcases h with ⟨rfl, rfl, rfl⟩ | ⟨b, o, rfl, hle, hc⟩
  · exact ⟨(0, 0), fun ρ N n hn _ => ⟨hn, Nat.le_refl _, .inr ⟨rfl, rfl, rfl⟩⟩, fun ρ N h => absurd rfl h⟩
  · refine ⟨(b, o), fun ρ N n hn ha => ⟨hn, hle, .inl ?_⟩, fun ρ N hne => ?_⟩
    · simp [ad, ha]
    · obtain ⟨c, T, fr, hh, hcs⟩ := hc hne
      refine ⟨c, T, fr, hh, fun k x hk => ?_⟩
      obtain ⟨u, h1, h2⟩ := hcs k x hk
      have hfl : flat x = true := by
        have := List.all_eq_true.1 (E.row_flat L) x (List.mem_of_getElem? hk)
        exact this
      exact ⟨u, h1, MC_flat hfl h2⟩

theorem open_i64 {H : Type} {enc : TypeId × Value → H} {P : Program} {w : World} {spare : Nat → Bool} {held : Bool} {e : TypeId} (he : P.underlying e = some (.int .i64)) (n : Nat) (cs : List Value) (y : DataW H × List MemPlace) (_ : cs.length = encInt.k)
    (h : DataW.trod enc P w 0 spare held n e cs = some y) : ∃ x : Int, fits .i64 x ∧ IsEl encInt x cs := by
  obtain ⟨x, rfl, _, hw⟩ := DataW.trod_int he h
  refine ⟨x, ?_, ?_⟩
  · simp [Lit.wf, IntKind.min, IntKind.max, IntKind.signed, IntKind.bits] at hw
    simp only [fits]
    constructor <;> omega
  · intro j a ha
    match j, ha with
    | 0, ha => cases ha; exact ⟨_, rfl, rfl⟩
    | j + 1, ha => simp [encInt] at ha

theorem open_u8 {H : Type} {enc : TypeId × Value → H} {P : Program} {w : World} {spare : Nat → Bool} {held : Bool} {e : TypeId} (he : P.underlying e = some (.int .u8)) (n : Nat) (cs : List Value) (y : DataW H × List MemPlace) (_ : cs.length = encByte.k)
    (h : DataW.trod enc P w 0 spare held n e cs = some y) : ∃ x : Nat, x < 256 ∧ IsEl encByte x cs := by
  obtain ⟨x, rfl, _, hw⟩ := DataW.trod_int he h
  simp [Lit.wf, IntKind.min, IntKind.max, IntKind.signed, IntKind.bits] at hw
  refine ⟨x.toNat, by omega, ?_⟩
  intro j a ha
  match j, ha with
  | 0, ha => cases ha; exact ⟨_, rfl, by simp only [MC]; congr 1; omega⟩
  | j + 1, ha => simp [encByte] at ha
end Go.Abs
