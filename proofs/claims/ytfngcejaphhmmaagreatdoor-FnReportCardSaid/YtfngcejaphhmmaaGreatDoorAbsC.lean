import Derived.Test.YtfngcejaphhmmaaGreatDoorAbsB
import Derived.Laws.Tables
namespace Go.Abs
set_option linter.unusedVariables false
set_option linter.unusedSimpArgs false
def eqvs : List Value → List AV → Bool
  | [], [] => true
  | v :: l, x :: r => eqv v x && eqvs l r
  | _, _ => false
theorem eqvs_MCs : ∀ {l : List Value} {r : List AV}, eqvs l r = true → ∀ (ρ : Pl) (N : Nat), MCs ρ N r l
  | [], [], _, _, _ => trivial
  | v :: l, x :: r, h, ρ, N => by simp [eqvs] at h; exact ⟨eqv_MC h.1 ρ N, eqvs_MCs h.2 ρ N⟩
  | [], _ :: _, h, _, _ => by cases h
  | _ :: _, [], h, _, _ => by cases h
def szIs (P : Program) (T : TypeId) (n : Nat) : Bool :=
  match P.info? T with
  | some i => i.size == n
  | none => false
def zOf (P : Program) (T : TypeId) (z : List AV) : Bool :=
  match P.info? T with
  | some i => i.size == z.length && (match i.zero with | some v => eqvs v.cells.toList z | none => false)
  | none => false
def byIs (P : Program) (T : TypeId) (n : Nat) : Bool :=
  match P.info? T with
  | some i => i.bytes == n
  | none => false
def notAgg (P : Program) (T : TypeId) : Bool :=
  match P.underlying T with
  | some (.struct _) | some (.array ..) | none => false
  | some _ => true
def isAggT (P : Program) (T : TypeId) : Bool :=
  match P.underlying T with
  | some (.struct _) | some (.array ..) => true
  | _ => false
def isBoolT (P : Program) (T : TypeId) : Bool :=
  match P.underlying T with
  | some .bool => true
  | _ => false
def isStrT (P : Program) (T : TypeId) : Bool :=
  match P.underlying T with
  | some .string => true
  | _ => false
def isIntT (P : Program) (T : TypeId) : Bool :=
  match P.underlying T with
  | some (.int _) => true
  | _ => false
def slOf (P : Program) (T : TypeId) : Option TypeId :=
  match P.underlying T with
  | some (.slice e) => some e
  | _ => none
def flds (P : Program) : List Field → List Bool → Nat → Bool
  | [], [], _ => true
  | f :: r, b :: q, k => f.offset == k && decide (f.name ≠ "_") && (if b then isIntT P f.type else isBoolT P f.type) && flds P r q (k + 1)
  | _, _, _ => false
def structOk (P : Program) (T : TypeId) (q : List Bool) : Bool :=
  (match P.underlying T with
  | some (.struct fs) => flds P fs.toList q 0
  | _ => false) && !P.stoodInHeld T && !P.eqGuardType P.depth T
def offOf (P : Program) (T : TypeId) (f : Nat) : Option (Nat × TypeId) :=
  match P.underlying T with
  | some (.struct fs) => match fs[f]? with
    | some d => some (d.offset, d.type)
    | none => none
  | _ => none
def chkParts (place : Nat → Option (Nat × Nat)) : List (Nat × Operand) → List (Nat × Nat × X) → Bool
  | [], [] => true
  | (f, x) :: l, (o, n, y) :: r => place f == some (o, n) && chkX x y && chkParts place l r
  | _, _ => false
def chkBuild (P : Program) (T : TypeId) (parts : List (Nat × Operand)) (z : List AV) (ps : List (Nat × Nat × X)) : Bool :=
  match P.underlying T with
  | some (.struct fields) => match fields.toList.mapM (fun f => (P.info? f.type).map fun i => (f.offset, i.size)) with
    | some places => chkParts (places.toArray[·]?) parts ps
    | none => false
  | _ => false
def mapOf (P : Program) (T k e : TypeId) : Bool :=
  (match P.underlying T with | some (.map k' e') => k' == k && e' == e | _ => false) && (match P.underlying k with | some (.int .i64) => true | _ => false) && (match P.underlying e with | some (.int .i64) => true | _ => false)
def zInt (P : Program) (e : TypeId) : Bool :=
  match P.info? e with
  | some i => match i.zero with
    | some (.int .i64 0) => true
    | _ => false
  | none => false
def chkO (P : Program) (o : Oper) (lo : LO) : Bool :=
  match o.op, lo with
  | .move x, .mv y => chkX x y
  | .assign x, .mv y => chkX x y
  | .pick c a b, .pick c' a' b' => chkX c c' && chkX a a' && chkX b b'
  | .binOp op _ x y _, .bin op' x' y' => op == op' && chkX x x' && chkX y y'
  | .binOp op T x y _, .beq neg x' y' => op == (if neg then .neq else .eql) && isBoolT P T && chkX x x' && chkX y y'
  | .binOp op T x y _, .aeq neg q x' y' => op == (if neg then .neq else .eql) && structOk P T q && chkX x x' && chkX y y'
  | .unOp op _ x, .not y => op == .not && chkX x y
  | .unOp op _ x, .neg y => op == .neg && chkX x y
  | .load T x, .ld y => notAgg P T && chkX x y
  | .load T x, .ldn n y => isAggT P T && szIs P T n && chkX x y
  | .store T a x, .st n a' x' => szIs P T n && decide (0 < n) && chkX a a' && chkX x x'
  | .fieldAddr S x f, .fa d y => (match offOf P S f with | some (d', t) => d' == d && !szIs P t 0 && szIs P t ((P.info? t).elim 0 (·.size)) | none => false) && chkX x y
  | .indexAddr T x i, .ia sz y j => (match slOf P T with | some e => szIs P e sz | none => false) && chkX x y && chkX i j
  | .field T x f, .fld d y => (match offOf P T f with | some (d', t) => d' == d && notAgg P t | none => false) && chkX x y
  | .box T x, .box ty y => T == ty && chkX x y
  | .alloc T, .alloc ty z => T == ty && zOf P T z
  | .build T parts, .build z ps => zOf P T z && chkBuild P T parts.toList z ps
  | .buildSlice T len parts, .bsl ty z n ps => slOf P T == some ty && zOf P ty z && !z.isEmpty && len == n && decide (len * z.length ≤ 2 ^ 24) && chkParts (fun i => some (i * z.length, z.length)) parts.toList ps
  | .makeSlice T l c, .msl ty bytes z x => slOf P T == some ty && zOf P ty z && !z.isEmpty && byIs P ty bytes && decide (0 < bytes) && chkX l x && chkX c x
  | .slice T x lo hi mx, .slc sz y lo' hi' mx' => (match slOf P T with | some e => szIs P e sz | none => false) && chkX x y && chkXo lo lo' && chkXo hi hi' && chkXo mx mx' && (mx.isNone || hi.isSome)
  | .call c, .len y => (match c.callee with | .builtin .len => true | _ => false) && (match c.args.toList, c.argTypes.toList with
    | [x], [T] => (slOf P T).isSome && chkX x y
    | _, _ => false)
  | .call c, .slen y => (match c.callee with | .builtin .len => true | _ => false) && (match c.args.toList, c.argTypes.toList with
    | [x], [T] => isStrT P T && chkX x y
    | _, _ => false)
  | .call c, .mn x y => (match c.callee with | .builtin .min => true | _ => false) && chkXs c.args.toList [x, y]
  | .call c, .mx x y => (match c.callee with | .builtin .max => true | _ => false) && chkXs c.args.toList [x, y]
  | .call c, .app ty sz bytes x y => (match c.callee with | .builtin .append => true | _ => false) && chkXs c.args.toList [x, y] && (match c.argTypes.toList with
    | [T, T'] => T == T' && slOf P T == some ty
    | _ => false) && szIs P ty sz && byIs P ty bytes && (P.info? ty).any (fun i => i.zero.any fun z => z.cells.size == sz) && decide (0 < sz)
  | .call c, .appf ty sz bytes x y => (match c.callee with | .builtin .append => true | _ => false) && chkXs c.args.toList [x, y] && (match c.argTypes.toList with
    | [T, T'] => T == T' && slOf P T == some ty
    | _ => false) && szIs P ty sz && byIs P ty bytes && (P.info? ty).any (fun i => i.zero.any fun z => z.cells.size == sz) && decide (0 < sz)
  | .call c, .call f args => (match c.callee with | .value g => chkX g f | _ => false) && chkXs c.args.toList args
  | .makeFunc f a c, .mkf g a' c' => (match f with | .func h => h == g | _ => false) && chkXs a.toList a' && chkXs c.toList c'
  | .extract x i, .ext i' y => i == i' && chkX x y
  | .convert src dst x, .conv k y => isIntT P src && (match P.underlying dst with | some (.int k') => k' == k | _ => false) && chkX x y
  | .nilCheck x, .nilc y => chkX x y
  | _, .die => true
  | .binOp .shr _ x y _, .shr x' y' => chkX x x' && chkX y y'
  | .call c, .copy x y => (match c.callee with | .builtin .copy => true | _ => false) && chkXs c.args.toList [x, y] && (match c.argTypes.toList with
    | [T, _] => (match slOf P T with | some e => szIs P e 1 | none => false)
    | _ => false)
  | .binOp .add _ x y _, .sadd x' y' => chkX x x' && chkX y y'
  | .binOp op _ x y _, .scmp neg x' y' => op == (if neg then .neq else .eql) && chkX x x' && chkX y y'
  | .index T x i, .sidx x' i' => isStrT P T && chkX x x' && chkX i i'
  | .slice T x lo hi none, .sslc x' lo' hi' => isStrT P T && chkX x x' && chkXo lo lo' && chkXo hi hi'
  | .convert src dst x, .cvb y => (match slOf P src with | some e => (match P.underlying e with | some (.int .u8) => true | _ => false) | none => false) && isStrT P dst && chkX x y
  | .binOp op T x (.const .nilIface) _, .inil neg y => op == (if neg then .neq else .eql) && (match P.underlying T with | some (.interface _) => true | _ => false) && chkX x y
  | .makeMap T none, .mkm k e => mapOf P T k e
  | .call c, .api ty x y => (match c.callee with | .builtin .append => true | _ => false) && chkXs c.args.toList [x, y] && (match c.argTypes.toList with
    | [T, T'] => T == T' && slOf P T == some ty
    | _ => false) && szIs P ty 1
  | .call c, .clr x => (match c.callee with | .builtin .clear => true | _ => false) && (match c.args.toList, c.argTypes.toList with
    | [y], [T] => (match slOf P T with | some e => zInt P e | none => false) && chkX y x
    | _, _ => false)
  | .binOp .eql T x (.const (.slice none 0 0)) _, .snil y => (slOf P T).isSome && chkX x y
  | .lookup T m x true, .lk k e m' x' => mapOf P T k e && zInt P e && chkX m m' && chkX x x'
  | .mapUpdate T m x v, .mup k e m' x' v' => mapOf P T k e && chkX m m' && chkX x x' && chkX v v'
  | _, _ => false
/-! ### reading a value off its abstract form -/
theorem M.int {ρ : Pl} {N : Nat} {k : IntKind} {n : Int} {v : Value} (h : M ρ N (.i k n) v) : v = .int k n := by simpa [M, M1, MC] using h
theorem M.bool {ρ : Pl} {N : Nat} {b : Bool} {v : Value} (h : M ρ N (.b b) v) : v = .bool b := by simpa [M, M1, MC] using h
theorem M.str {ρ : Pl} {N : Nat} {b : ByteArray} {v : Value} (h : M ρ N (.s b) v) : v = .string b := by simpa [M, M1, MC] using h
theorem M.ptr {ρ : Pl} {N : Nat} {n o : Nat} {v : Value} (h : M ρ N (.p n o) v) : n < N ∧ v = .pointer (some (ad ρ n o)) := by simpa [M, M1, MC] using h
theorem M.sl {ρ : Pl} {N : Nat} {n o l c : Nat} {v : Value} (h : M ρ N (.sl n o l c) v) : n < N ∧ ∃ b, v = .slice b l c ∧ (b = some (ad ρ n o) ∨ (l = 0 ∧ c = 0 ∧ b = none)) := by
  simp only [M, M1, MC] at h
  obtain ⟨h1, _, rfl | ⟨rfl, rfl, rfl⟩⟩ := h
  · exact ⟨h1, _, rfl, .inl rfl⟩
  · exact ⟨h1, _, rfl, .inr ⟨rfl, rfl, rfl⟩⟩
theorem M.cap {ρ : Pl} {N : Nat} {n o l c : Nat} {v : Value} (h : M ρ N (.sl n o l c) v) : l ≤ c := by
  simp only [M, M1, MC] at h
  exact h.2.1
theorem M.sn {ρ : Pl} {N : Nat} {v : Value} (h : M ρ N .sn v) : v = .slice none 0 0 := by simpa [M, M1, MC] using h
theorem M.fnv {ρ : Pl} {N : Nat} {f : Nat} {a c : List (Nat × Nat)} {v : Value} (h : M ρ N (.fn f a c) v) :
    (∀ x ∈ a, x.1 < N) ∧ (∀ x ∈ c, x.1 < N) ∧ v = .func (.func f) (ptrs ρ a).toArray (ptrs ρ c).toArray := by simpa only [M, M1, MC] using h
theorem M.aggv {ρ : Pl} {N : Nat} {l : List AV} {v : Value} (h : M ρ N (.agg l) v) : ∃ vs : List Value, v = .agg vs.toArray ∧ MCs ρ N l vs := by simpa only [M, M1] using h
theorem M.tupv {ρ : Pl} {N : Nat} {l : List AV} {v : Value} (h : M ρ N (.tup l) v) : ∃ vs : List Value, v = .tuple vs.toArray ∧ M1s ρ N l vs := by simpa only [M] using h
theorem M.cells {ρ : Pl} {N : Nat} {x : AV} {v : Value} (h : M ρ N x v) (hd : x.data = true) : MCs ρ N x.cl v.cells.toList := by
  cases x
  case agg l => obtain ⟨vs, rfl, hl⟩ := h.aggv; simpa [AV.cl, Value.cells] using hl
  case j => cases hd
  case tup l => cases hd
  all_goals
    (have h' : MC ρ N _ v := (by simpa only [M, M1] using h)
     have h1 := h'.one
     refine (?_ : MCs ρ N [_] v.cells.toList)
     cases v <;> first
       | exact ⟨h', trivial⟩
       | cases h1)
theorem M.m1 {ρ : Pl} {N : Nat} {x : AV} {v : Value} (h : M ρ N x v) (hd : x.data = true) : M1 ρ N x v := by
  cases x <;> first | exact h | cases hd
theorem ad_add (ρ : Pl) (n o k : Nat) : (ad ρ n o).add k = ad ρ n (o + k) := by
  unfold Addr.add ad
  split
  · simp_all
  · simp [Nat.add_assoc]
theorem cell_of {F : Fr} {ρ : Pl} {σ : List AB} {w : World} (h : Sim F ρ σ w) {n : Nat} {cs : List AV} (hc : cellsOf σ n = some cs) (hne : cs ≠ []) :
    ∃ c T fr, w.heap[(ρ n).1]? = some (.cells c T fr) ∧ Cells ρ σ.length c (ρ n).2 cs := by
  unfold cellsOf at hc
  split at hc
  · rename_i cs' hb
    cases hc
    exact h.bl n _ hb hne
  · rename_i ty cs' r hb
    cases hc
    obtain ⟨hl, hh⟩ := h.bl n _ hb
    obtain ⟨h0, c, h1, h2, h3⟩ := hh (fun e => hne (List.eq_nil_of_length_eq_zero (by omega)))
    exact ⟨c, ty, (0, 0), h1, by rw [h0]; exact h3⟩
  · cases hc
theorem cell_row {w : World} {g j : Nat} {c : Array Value} {T : TypeId} {fr : Nat × Nat} (h : w.heap[g]? = some (.cells c T fr)) : w.cell? ⟨g, j, none⟩ = c[j]? := by simp [World.cell?, h]
theorem win_vals {F : Fr} {ρ : Pl} {σ : List AB} {w : World} (h : Sim F ρ σ w) {n o k : Nat} {cs : List AV} (hc : cellsOf σ n = some cs) (hk : o + k ≤ cs.length) :
    ∃ vs : List Value, MCs ρ σ.length (win cs o k) vs ∧ vs.length = k ∧ ∀ (j : Nat) (v : Value), vs[j]? = some v → w.cell? ((ad ρ n o).add j) = some v := by
  by_cases hne : cs = []
  · subst hne
    obtain ⟨rfl, rfl⟩ : o = 0 ∧ k = 0 := by simp at hk; omega
    exact ⟨[], trivial, rfl, by simp⟩
  obtain ⟨c, T, fr, h1, h2⟩ := cell_of h hc hne
  obtain ⟨vs, h3, h4⟩ := (h2.sub o k).take
  refine ⟨vs, h3, ?_, ?_⟩
  · have := h3.length
    simp at this
    omega
  · intro j v hj
    rw [ad_add]
    unfold ad
    rw [cell_row h1]
    have := h4 j v hj
    rwa [Nat.add_assoc] at this
section
variable {P : Program} {o : Oper} {F : Fr} {ρ : Pl} {nt : Nat} {s : St} {a : Act} {w : World} {K : AV → List AB → Prop} {next : Act → World → Prop} {Q : Exit → Act → World → Prop}
def Nxt (o : Oper) (F : Fr) (ρ : Pl) (s : St) (a : Act) (K : AV → List AB → Prop) (next : Act → World → Prop) : Prop :=
  ∀ x v ρ' σ' w', K x σ' → Sim F ρ' σ' w' → s.σ.length ≤ σ'.length → (∀ n, n < s.σ.length → ρ' n = ρ n) → M ρ' σ'.length x v → next (a.put o.dst v) w'
theorem by_value (hs : SimS F ρ nt s a w) (hn : Nxt o F ρ s a K next) {v : Value} (hr : (execOp a.eval o).run P w = .ok (.value v) w) {x : AV} (hk : K x s.σ) (hm : M ρ s.σ.length x v) : o.wp P a w next Q := by
  unfold Oper.wp
  rw [hr]
  exact hn x v ρ s.σ w hk hs.1 (Nat.le_refl _) (fun _ _ => rfl) hm
theorem by_value' (hn : Nxt o F ρ s a K next) {v : Value} {w' : World} (hr : (execOp a.eval o).run P w = .ok (.value v) w') {x : AV} {ρ' : Pl} {σ' : List AB} (hk : K x σ') (hs' : Sim F ρ' σ' w')
    (hN : s.σ.length ≤ σ'.length) (he : ∀ n, n < s.σ.length → ρ' n = ρ n) (hm : M ρ' σ'.length x v) : o.wp P a w next Q := by
  unfold Oper.wp
  rw [hr]
  exact hn x v ρ' σ' w' hk hs' hN he hm
theorem by_skip' (hn : Nxt o F ρ s a K next) {w' : World} (hr : (execOp a.eval o).run P w = .ok .skip w') {ρ' : Pl} {σ' : List AB} (hk : K .j σ') (hs' : Sim F ρ' σ' w')
    (hN : s.σ.length ≤ σ'.length) (he : ∀ n, n < s.σ.length → ρ' n = ρ n) : o.wp P a w next Q := by
  unfold Oper.wp
  rw [hr]
  exact hn .j undef ρ' σ' w' hk hs' hN he trivial
theorem wrap_fits {k : IntKind} {x : Int} (h : fits k x) : k.wrap x = x := by
  cases k <;> simp [fits] at h <;> simp [IntKind.wrap, IntKind.bits, IntKind.signed] <;> omega
theorem ok_mv {x : Operand} {y : X} (ho : o.op = .move x ∨ o.op = .assign x) (hx : chkX x y = true) (hs : SimS F ρ nt s a w) (hw : wpO P (.mv y) s K) (hn : Nxt o F ρ s a K next) : o.wp P a w next Q := by
  refine by_value hs hn (v := a.eval x) ?_ hw (chkX_ok hs hx)
  rcases ho with ho | ho <;> (unfold execOp; simp only [ho]; rfl)
theorem ok_pick {c x y : Operand} {c' x' y' : X} (ho : o.op = .pick c x y) (h0 : chkX c c' = true) (h1 : chkX x x' = true) (h2 : chkX y y' = true) (hs : SimS F ρ nt s a w) (hw : wpO P (.pick c' x' y') s K) (hn : Nxt o F ρ s a K next) : o.wp P a w next Q := by
  have hc := chkX_ok hs h0
  simp only [wpO] at hw
  split at hw
  · rename_i t ht
    rw [ht] at hc
    have hcv := hc.bool
    cases t
    · refine by_value hs hn (v := a.eval y) ?_ (hw.2 rfl) (chkX_ok hs h2)
      unfold execOp; simp [ho, hcv, asBool]
    · refine by_value hs hn (v := a.eval x) ?_ (hw.1 rfl) (chkX_ok hs h1)
      unfold execOp; simp [ho, hcv, asBool]
  · exact hw.elim
theorem xor_i64 (a b : Nat) (ha : a < 4611686018427387904) (hb : b < 4611686018427387904) : IntKind.i64.wrap ((BitVec.ofInt IntKind.i64.bits (a : Int) ^^^ BitVec.ofInt IntKind.i64.bits (b : Int)).toNat : Int) = ((a ^^^ b : Nat) : Int) := by
  show IntKind.i64.wrap ((BitVec.ofInt 64 (a : Int) ^^^ BitVec.ofInt 64 (b : Int)).toNat : Int) = _
  have hx : a ^^^ b < 2 ^ 62 := Nat.xor_lt_two_pow (by omega) (by omega)
  have h1 : (BitVec.ofInt 64 (a : Int)).toNat = a := by
    rw [BitVec.ofInt_natCast, BitVec.toNat_ofNat]; exact Nat.mod_eq_of_lt (by omega)
  have h2 : (BitVec.ofInt 64 (b : Int)).toNat = b := by
    rw [BitVec.ofInt_natCast, BitVec.toNat_ofNat]; exact Nat.mod_eq_of_lt (by omega)
  rw [BitVec.toNat_xor, h1, h2]
  exact wrap_fits (k := .i64) ⟨by omega, by omega⟩
theorem and_u64 (a : Nat) (ha : a ≤ 18446744073709551615) : IntKind.u64.wrap ((BitVec.ofInt IntKind.u64.bits (a : Int) &&& BitVec.ofInt IntKind.u64.bits 4294967295).toNat : Int) = (a : Int) % 4294967296 := by
  have h1 : (BitVec.ofInt IntKind.u64.bits (a : Int) &&& BitVec.ofInt IntKind.u64.bits 4294967295).toNat = a % 4294967296 := by
    have e1 : (BitVec.ofInt IntKind.u64.bits (a : Int)).toNat = a := by
      simp [IntKind.bits, BitVec.toNat_ofInt]; omega
    have e2 : (BitVec.ofInt IntKind.u64.bits 4294967295).toNat = 4294967295 := by decide
    rw [BitVec.toNat_and, e1, e2]
    exact Nat.and_two_pow_sub_one_eq_mod a 32
  rw [h1]
  exact wrap_fits (k := .u64) ⟨by omega, by omega⟩
theorem run_ibin {op : BinOp} {T : TypeId} {k : IntKind} {x y : Int} {K : AV → Prop} (h : ibin op k x y K) (w : World) : ∃ v : AV, K v ∧ ∃ cv, (binOp op T (.int k x) (.int k y)).run P w = .ok cv w ∧ ∀ ρ N, M ρ N v cv := by
  unfold ibin at h
  split at h
  · exact ⟨_, h.2, _, by simp [binOp, Op.intArith, wrap_fits h.1]; rfl, fun _ _ => by simp [M, M1, MC]⟩
  · exact ⟨_, h.2, _, by simp [binOp, Op.intArith, wrap_fits h.1]; rfl, fun _ _ => by simp [M, M1, MC]⟩
  · exact ⟨_, h.2, _, by simp [binOp, Op.intArith, wrap_fits h.1]; rfl, fun _ _ => by simp [M, M1, MC]⟩
  · exact ⟨_, h.2.2, _, by simp [binOp, Op.intDiv, h.1, wrap_fits h.2.1]; rfl, fun _ _ => by simp [M, M1, MC]⟩
  · exact ⟨_, h.2, _, by simp [binOp, Op.intDiv, h.1]; rfl, fun _ _ => by simp [M, M1, MC]⟩
  · exact ⟨_, h, .bool (x == y), by simp [binOp, Op.intCmp], fun _ _ => by simp only [M, M1, MC]; congr 1⟩
  · exact ⟨_, h, .bool (x != y), by simp [binOp, Op.intCmp], fun _ _ => by simp only [M, M1, MC]; congr 1; by_cases e : x = y <;> simp [e]⟩
  · exact ⟨_, h, .bool (x < y), by simp [binOp, Op.intCmp], fun _ _ => by simp [M, M1, MC]⟩
  · exact ⟨_, h, .bool (x ≤ y), by simp [binOp, Op.intCmp], fun _ _ => by simp [M, M1, MC]⟩
  · exact ⟨_, h, .bool (x > y), by simp [binOp, Op.intCmp], fun _ _ => by simp [M, M1, MC]⟩
  · exact ⟨_, h, .bool (x ≥ y), by simp [binOp, Op.intCmp], fun _ _ => by simp [M, M1, MC]⟩
  · obtain ⟨⟨rfl, h1, h2, rfl⟩, hk⟩ := h
    obtain ⟨a, rfl⟩ := Int.eq_ofNat_of_zero_le h1
    refine ⟨_, hk, .int .u64 ((a : Int) % 4294967296), ?_, fun _ _ => by simp [M, M1, MC]⟩
    rw [← and_u64 a (by omega)]
    simp [binOp, Op.intBits]
  · obtain ⟨⟨rfl, h1, h2, h3, h4⟩, hk⟩ := h
    obtain ⟨a, rfl⟩ := Int.eq_ofNat_of_zero_le h1
    obtain ⟨b, rfl⟩ := Int.eq_ofNat_of_zero_le h2
    refine ⟨_, hk, .int .i64 ((a ^^^ b : Nat) : Int), ?_, fun _ _ => by simp [M, M1, MC]⟩
    rw [← xor_i64 a b (by omega) (by omega)]
    simp [binOp, Op.intBits]
  · exact h.elim
theorem eqGuard_plain {op : BinOp} {T : TypeId} {x y : Operand} {u v : Value} (h : u.oneCell' = true) (hi : u ≠ .nilIface) : (eqGuard op T x y u v).run P w = .ok () w := by
  cases op <;> cases u <;> first | (exact absurd rfl hi) | (cases h; done) | rfl | (cases v <;> rfl)
theorem ok_bin {op : BinOp} {T T' : TypeId} {x y : Operand} {x' y' : X} (ho : o.op = .binOp op T x y T') (h1 : chkX x x' = true) (h2 : chkX y y' = true) (hs : SimS F ρ nt s a w) (hw : wpO P (.bin op x' y') s K) (hn : Nxt o F ρ s a K next) : o.wp P a w next Q := by
  have hx := chkX_ok hs h1
  have hy := chkX_ok hs h2
  simp only [wpO] at hw
  split at hw
  · rename_i k p k' q e1 e2
    rw [e1] at hx
    rw [e2] at hy
    obtain ⟨rfl, hw⟩ := hw
    obtain ⟨v, hv, cv, hr, hm⟩ := run_ibin (P := P) (T := T) hw w
    refine by_value hs hn (v := cv) ?_ hv (hm _ _)
    unfold execOp
    simp only [ho, hx.int, hy.int, Sem.run_bind, eqGuard_plain (P := P) (w := w) (op := op) (T := T) (x := x) (y := y) (u := .int k p) (v := .int k q) rfl (by simp), Result.andThen_ok, hr, Sem.run_pure]
  · exact hw.elim
theorem ok_beq {neg : Bool} {T T' : TypeId} {x y : Operand} {x' y' : X} (ho : o.op = .binOp (if neg then .neq else .eql) T x y T') (hT : P.underlying T = some .bool) (h1 : chkX x x' = true) (h2 : chkX y y' = true) (hs : SimS F ρ nt s a w) (hw : wpO P (.beq neg x' y') s K) (hn : Nxt o F ρ s a K next) : o.wp P a w next Q := by
  have hx := chkX_ok hs h1
  have hy := chkX_ok hs h2
  simp only [wpO] at hw
  split at hw
  · rename_i p q e1 e2
    rw [e1] at hx
    rw [e2] at hy
    have he : ∀ op, (eqGuard op T x y (.bool p) (.bool q)).run P w = .ok () w := fun op => eqGuard_plain rfl (by simp)
    have hq : (Op.equal T (.bool p) (.bool q)).run P w = .ok (p == q) w := run_equalIn_bool' w 9999 T p q hT
    have e1 : binOp .eql T (.bool p) (.bool q) = (do pure (.bool (← Op.equal T (.bool p) (.bool q)))) := rfl
    have e2 : binOp .neq T (.bool p) (.bool q) = (do pure (.bool (!(← Op.equal T (.bool p) (.bool q))))) := rfl
    cases neg
    · refine by_value hs hn (v := .bool (p == q)) ?_ hw (by simp only [M, M1, MC]; cases p <;> cases q <;> rfl)
      unfold execOp
      simp only [ho, Bool.false_eq_true, if_false, hx.bool, hy.bool, Sem.run_bind, he, e1, hq, Result.andThen_ok, Sem.run_pure]
    · refine by_value hs hn (v := .bool (!(p == q))) ?_ hw (by simp only [M, M1, MC]; cases p <;> cases q <;> rfl)
      unfold execOp
      simp only [ho, if_true, hx.bool, hy.bool, Sem.run_bind, he, e2, hq, Result.andThen_ok, Sem.run_pure]
  · exact hw.elim
theorem ok_not {T : TypeId} {x : Operand} {y : X} (ho : o.op = .unOp .not T x) (h1 : chkX x y = true) (hs : SimS F ρ nt s a w) (hw : wpO P (.not y) s K) (hn : Nxt o F ρ s a K next) : o.wp P a w next Q := by
  have hx := chkX_ok hs h1
  simp only [wpO] at hw
  split at hw
  · rename_i p e1
    rw [e1] at hx
    refine by_value hs hn (v := .bool (!p)) ?_ hw (by simp [M, M1, MC])
    unfold execOp
    simp [ho, hx.bool, Op.unary]
  · exact hw.elim
theorem ok_neg {T : TypeId} {x : Operand} {y : X} (ho : o.op = .unOp .neg T x) (h1 : chkX x y = true) (hs : SimS F ρ nt s a w) (hw : wpO P (.neg y) s K) (hn : Nxt o F ρ s a K next) : o.wp P a w next Q := by
  have hx := chkX_ok hs h1
  simp only [wpO] at hw
  split at hw
  · rename_i k p e1
    rw [e1] at hx
    refine by_value hs hn (v := .int k (-p)) ?_ hw.2 (by simp [M, M1, MC])
    unfold execOp
    have := wrap_fits hw.1
    simp [ho, hx.int, Op.unary, Op.intArith, this]
  · exact hw.elim
theorem notAgg_run {T : TypeId} (h : notAgg P T = true) : (isAgg T).run P w = .ok false w := by
  unfold notAgg at h
  split at h
  · cases h
  · cases h
  · cases h
  · rename_i d h1 h2 h3
    simp only [isAgg, Sem.run_bind, run_underlying h3, Result.andThen_ok]
    cases d <;> first | rfl | exact (h1 _ rfl).elim | exact (h2 _ _ rfl).elim
theorem isAggT_run {T : TypeId} (h : isAggT P T = true) : (isAgg T).run P w = .ok true w := by
  unfold isAggT at h
  split at h
  · rename_i fs h1
    simp only [isAgg, Sem.run_bind, run_underlying h1, Result.andThen_ok]; rfl
  · rename_i n e h1
    simp only [isAgg, Sem.run_bind, run_underlying h1, Result.andThen_ok]; rfl
  · cases h
theorem szIs_run {T : TypeId} {n : Nat} (h : szIs P T n = true) : (sizeOf T).run P w = .ok n w := by
  unfold szIs at h
  split at h
  · rename_i i hi
    have : i.size = n := by simpa using h
    simp [sizeOf, typeInfo, hi, this]
  · cases h
theorem ok_ld {T : TypeId} {x : Operand} {y : X} (ho : o.op = .load T x) (hT : notAgg P T = true) (h1 : chkX x y = true) (hs : SimS F ρ nt s a w) (hw : wpO P (.ld y) s K) (hn : Nxt o F ρ s a K next) : o.wp P a w next Q := by
  have hx := chkX_ok hs h1
  simp only [wpO] at hw
  split at hw
  · rename_i n d e1
    rw [e1] at hx
    obtain ⟨hlt, hv⟩ := hx.ptr
    split at hw
    · rename_i cs hc
      obtain ⟨c, T', fr, h2, h3⟩ := cell_of hs.1 hc (fun e => by rw [e] at hw; simp at hw)
      obtain ⟨u, hu, hm⟩ := h3 d _ (List.getElem?_eq_getElem hw.1)
      have hcell : w.cell? (ad ρ n d) = some u := by unfold ad; rw [cell_row h2]; exact hu
      refine by_value hs hn (v := u) ?_ hw.2 (M.ofMC (by simp only [rd, List.getElem?_eq_getElem hw.1, Option.getD_some]; exact hm))
      unfold execOp
      simp [ho, hv, Instr.loadAt, Instr.sureAddr, loadVar, notAgg_run (P := P) (w := w) hT, hcell]
    · exact hw.elim
  · exact hw.elim
theorem ok_ldn {T : TypeId} {k : Nat} {x : Operand} {y : X} (ho : o.op = .load T x) (hT : isAggT P T = true) (hz : szIs P T k = true) (h1 : chkX x y = true) (hs : SimS F ρ nt s a w) (hw : wpO P (.ldn k y) s K) (hn : Nxt o F ρ s a K next) : o.wp P a w next Q := by
  have hx := chkX_ok hs h1
  simp only [wpO] at hw
  split at hw
  · rename_i n d e1
    rw [e1] at hx
    obtain ⟨hlt, hv⟩ := hx.ptr
    split at hw
    · rename_i cs hc
      obtain ⟨vs, hm, hl, hcell⟩ := win_vals hs.1 hc hw.1
      have hr := run_loadCells_list (P := P) w (ad ρ n d) vs hcell
      rw [hl] at hr
      refine by_value hs hn (v := .agg vs.toArray) ?_ hw.2 (by simp only [M, M1]; exact ⟨vs, rfl, hm⟩)
      unfold execOp
      simp [ho, hv, Instr.loadAt, Instr.sureAddr, loadVar, isAggT_run (P := P) (w := w) hT, szIs_run (P := P) (w := w) hz, hr]
    · exact hw.elim
  · exact hw.elim
theorem spl_get : ∀ (r z : List AV) (o j : Nat), o + r.length ≤ z.length → (spl z o r)[j]? = if o ≤ j ∧ j < o + r.length then r[j - o]? else z[j]?
  | [], z, o, j, _ => by
    rw [if_neg (by simp)]; rfl
  | x :: r, z, o, j, h => by
    simp only [spl]
    rw [spl_get r (z.set o x) (o + 1) j (by simp at h ⊢; omega)]
    simp only [List.length_cons] at h ⊢
    by_cases h1 : o + 1 ≤ j ∧ j < o + 1 + r.length
    · rw [if_pos h1, if_pos (by omega), show j - o = (j - (o + 1)) + 1 from by omega, List.getElem?_cons_succ]
    · rw [if_neg h1, List.getElem?_set]
      by_cases h2 : o = j
      · subst h2
        rw [if_pos rfl, if_pos (by omega), if_pos (by omega)]
        simp
      · rw [if_neg h2, if_neg (by omega)]
theorem spl_length : ∀ (r z : List AV) (o : Nat), (spl z o r).length = z.length
  | [], z, o => rfl
  | x :: r, z, o => by simp [spl, spl_length r]
theorem Cells.spl {ρ : Pl} {N : Nat} {c : Array Value} {cs r : List AV} {vs : List Value} {o : Nat} (h : Cells ρ N c 0 cs) (hr : MCs ρ N r vs) (ho : o + r.length ≤ cs.length) (hc : cs.length ≤ c.size) :
    Cells ρ N (c.toList.take o ++ vs ++ c.toList.drop (o + vs.length)).toArray 0 (Abs.spl cs o r) := by
  intro j x hj
  have hl := hr.length
  rw [spl_get r cs o j ho] at hj
  simp only [Nat.zero_add, List.getElem?_toArray]
  split at hj
  · rename_i h1
    obtain ⟨v, hv, hm⟩ := hr.get hj
    refine ⟨v, ?_, hm⟩
    rw [List.append_assoc, List.getElem?_append_right (by simp; omega), List.getElem?_append_left (by simp; omega)]
    simp only [List.length_take, Array.length_toList]
    rw [show j - min o c.size = j - o from by omega]
    exact hv
  · rename_i h1
    obtain ⟨v, hv, hm⟩ := h j x hj
    refine ⟨v, ?_, hm⟩
    have hjl := (List.getElem?_eq_some_iff.1 hj).1
    by_cases h2 : j < o
    · rw [List.append_assoc, List.getElem?_append_left (by simp; omega), List.getElem?_take, if_pos h2]
      simpa using hv
    · rw [List.getElem?_append_right (by simp; omega), List.getElem?_drop]
      simp only [List.length_append, List.length_take, Array.length_toList]
      rw [show o + vs.length + (j - (min o c.size + vs.length)) = j from by omega]
      simpa using hv
theorem Holds.size {ρ : Pl} {N : Nat} {c : Array Value} {cs : List AV} (h : Cells ρ N c 0 cs) : cs.length ≤ c.size := by
  by_cases h0 : cs.length = 0
  · omega
  · obtain ⟨v, hv, _⟩ := h (cs.length - 1) _ (List.getElem?_eq_getElem (by omega))
    have := (Array.getElem?_eq_some_iff.1 hv).1
    omega
theorem ok_st {T : TypeId} {k : Nat} {p x : Operand} {p' x' : X} (ho : o.op = .store T p x) (hz : szIs P T k = true) (hk0 : 0 < k) (h1 : chkX p p' = true) (h2 : chkX x x' = true) (hs : SimS F ρ nt s a w) (hw : wpO P (.st k p' x') s K) (hn : Nxt o F ρ s a K next) : o.wp P a w next Q := by
  have hp := chkX_ok hs h1
  have hx := chkX_ok hs h2
  simp only [wpO] at hw
  split at hw
  · rename_i n d e1
    rw [e1] at hp
    obtain ⟨hlt, hv⟩ := hp.ptr
    split at hw
    · rename_i ty cs r hb
      obtain ⟨hd, hlen, hfit, hk⟩ := hw
      obtain ⟨hlr, hbl⟩ := hs.1.bl n _ hb
      have hr0 : r ≠ 0 := by omega
      obtain ⟨h0, c, hc, hr, hcs⟩ := hbl hr0
      have hcl := hx.cells hd
      have hvl := hcl.length
      have hsz := Holds.size hcs
      have hst := run_storeCells_at P (ρ n).1 d ty (a.eval x).cells.toList 0 c w hc (by omega) hcl.ones
      simp only [Nat.add_zero] at hst
      refine by_skip' (w' := w.setRow (ρ n).1 _) hn ?_ hk (hs.1.write hb hr0 _ rfl rfl rfl (by simp) (fun i hi hne => setRow_other w _ i _ hne) (setRow_heap w _ c _ ty _ hc) ?_ (by rw [spl_length]; exact hlr) (hcs.spl hcl (by omega) hsz)) (by simp) (fun _ _ => rfl)
      · unfold execOp
        have had : ad ρ n d = ⟨(ρ n).1, d, none⟩ := by unfold ad; rw [h0]; simp
        have hsize : (a.eval x).cells.size = k := by rw [← hlen, hvl]; simp
        simp [ho, hv, Instr.storeAt, Instr.sureAddr, storeVar, szIs_run (P := P) (w := w) hz, hsize, had, hst]
      · rw [hlen] at hvl
        simp only [List.size_toArray, List.length_append, List.length_take, List.length_drop, Array.length_toList]
        simp only [Array.length_toList] at hvl
        omega
    · exact hw.elim
  · exact hw.elim
end
end Go.Abs
