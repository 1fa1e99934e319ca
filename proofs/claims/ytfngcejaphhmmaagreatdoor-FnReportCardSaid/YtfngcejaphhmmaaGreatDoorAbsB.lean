import Derived.Test.YtfngcejaphhmmaaGreatDoorAbsA
namespace Go.Abs
set_option linter.unusedVariables false
theorem Sim.kill {F : Fr} {ρ : Pl} {σ : List AB} {w : World} (h : Sim F ρ σ w) (n : Nat) : Sim F ρ (σ.set n .dead) w := by
  refine ⟨h.os, h.tape, h.out, h.sz, h.fr, ?_, ?_⟩
  · intro m B hm
    rw [List.length_set]
    rw [List.getElem?_set] at hm
    by_cases e : n = m
    · subst e
      rw [if_pos rfl] at hm
      split at hm
      · cases hm; trivial
      · cases hm
    · rw [if_neg e] at hm; exact h.bl m B hm
  · intro m B0 hm hr
    rw [List.getElem?_set] at hm
    by_cases e : n = m
    · subst e
      rw [if_pos rfl] at hm
      split at hm
      · cases hm; exact hr.elim
      · cases hm
    · rw [if_neg e] at hm
      obtain ⟨h1, h2⟩ := h.own m B0 hm hr
      refine ⟨h1, fun k B hk hB hd => ?_⟩
      rw [List.getElem?_set] at hB
      by_cases e' : n = k
      · subst e'
        rw [if_pos rfl] at hB
        split at hB
        · cases hB; exact hd.elim
        · cases hB
      · rw [if_neg e'] at hB; exact h2 k B hk hB hd
theorem Sim.move {F : Fr} {ρ : Pl} {σ : List AB} {w : World} (h : Sim F ρ σ w) {n : Nat} {ty : TypeId} {cs : List AV} {r : Nat} (hn : σ[n]? = some (.rw ty cs r)) :
    Sim F (plus ρ σ.length (ρ n)) (σ.set n .dead ++ [.rw ty cs r]) w := by
  have hl : (σ.set n AB.dead).length = σ.length := by simp
  have h' := (h.kill n).adopt ty cs r (ρ n)
  rw [hl] at h'
  refine h' ((h.bl n _ hn).ext (by omega) fun m hm => plus_old _ _ _ hm) fun hr => ?_
  obtain ⟨hz, ho⟩ := h.own n _ hn hr
  refine ⟨hz, fun m B hB hd => ?_⟩
  rw [List.getElem?_set] at hB
  by_cases e : n = m
  · subst e
    rw [if_pos rfl] at hB
    split at hB
    · cases hB; exact hd.elim
    · cases hB
  · rw [if_neg e] at hB
    exact ho m B (fun x => e x.symm) hB hd
/-! ### operands -/
inductive X where
  | t (n : Nat)
  | k (v : AV)
def ev (T : List (Nat × AV)) : X → AV
  | .t n => look T n
  | .k v => v
def eqv : Value → AV → Bool
  | .bool a, .b c => a == c
  | .int k n, .i k' n' => k == k' && n == n'
  | .string s, .s s' => decide (s = s')
  | .pointer none, .pn => true
  | .slice none 0 0, .sn => true
  | .nilFunc, .fnil => true
  | .nilIface, .ex .nilIface => true
  | _, _ => false
theorem eqv_MC {v : Value} {x : AV} (h : eqv v x = true) (ρ : Pl) (N : Nat) : MC ρ N x v := by
  cases v <;> cases x <;> simp [eqv] at h <;> (try (simp only [MC])) <;> (try subst h) <;> (try rfl)
  · obtain ⟨rfl, rfl⟩ := h; rfl
  all_goals (split at h <;> simp_all [Value.oneCell'])
def chkX : Operand → X → Bool
  | .tmp t, .t u => t == u
  | .const v, .k x => eqv v x
  | .func f, .k (.fn g [] []) => f == g
  | _, _ => false
theorem chkX_ok {F : Fr} {ρ : Pl} {nt : Nat} {s : St} {a : Act} {w : World} (h : SimS F ρ nt s a w) {x : Operand} {y : X} (hc : chkX x y = true) : M ρ s.σ.length (ev s.T y) (a.eval x) := by
  unfold chkX at hc
  split at hc
  · rename_i t u
    obtain rfl : t = u := by simpa using hc
    exact h.2.2.2 t
  · exact M.ofMC (eqv_MC hc ρ _)
  · rename_i f g
    obtain rfl : f = g := by simpa using hc
    simp only [ev, M, M1, MC, Act.eval]
    exact ⟨by simp, by simp, by simp [ptrs]⟩
  · cases hc
def chkXs : List Operand → List X → Bool
  | [], [] => true
  | x :: l, y :: r => chkX x y && chkXs l r
  | _, _ => false
def chkXo : Option Operand → Option X → Bool
  | none, none => true
  | some x, some y => chkX x y
  | _, _ => false
/-! ### what an operation asks -/
def cellsOf (σ : List AB) (n : Nat) : Option (List AV) :=
  match σ[n]? with
  | some (.ro cs) => some cs
  | some (.rw _ cs _) => some cs
  | _ => none
def bc (x : Bool) (A B : Prop) : Prop := (x = true → A) ∧ (x = false → B)
theorem eqT (b : Bool) : (b == true) = b := by cases b <;> rfl
theorem eqF (b : Bool) : (b == false) = !b := by cases b <;> rfl
theorem bc_true (A B : Prop) : bc true A B = A := by simp [bc]
theorem bc_false (A B : Prop) : bc false A B = B := by simp [bc]
theorem bc_not (x : Bool) (A B : Prop) : bc (!x) A B = bc x B A := by cases x <;> simp [bc]
theorem bc_dec (p : Prop) [Decidable p] (A B : Prop) : bc (decide p) A B = ((p → A) ∧ (¬p → B)) := by simp [bc]
def rd (cs : List AV) (o : Nat) : AV := cs[o]?.getD .j
def AV.data : AV → Bool
  | .j | .tup _ => false
  | _ => true
def AV.cl : AV → List AV
  | .agg l => l
  | x => [x]
def spl (z : List AV) (o : Nat) : List AV → List AV
  | [] => z
  | x :: r => spl (z.set o x) (o + 1) r
def fits : IntKind → Int → Prop
  | .i64, x => -9223372036854775808 ≤ x ∧ x ≤ 9223372036854775807
  | .u8, x => 0 ≤ x ∧ x ≤ 255
  | .i32, x => -2147483648 ≤ x ∧ x ≤ 2147483647
  | .u64, x => 0 ≤ x ∧ x ≤ 18446744073709551615
  | .u32, x => 0 ≤ x ∧ x ≤ 4294967295
  | _, _ => False
def ibin (op : BinOp) (k : IntKind) (x y : Int) (K : AV → Prop) : Prop :=
  match op with
  | .add => fits k (x + y) ∧ K (.i k (x + y))
  | .sub => fits k (x - y) ∧ K (.i k (x - y))
  | .mul => fits k (x * y) ∧ K (.i k (x * y))
  | .quo => y ≠ 0 ∧ fits k (x.tdiv y) ∧ K (.i k (x.tdiv y))
  | .rem => y ≠ 0 ∧ K (.i k (x.tmod y))
  | .eql => K (.b (decide (x = y)))
  | .neq => K (.b (decide (x ≠ y)))
  | .lss => K (.b (decide (x < y)))
  | .leq => K (.b (decide (x ≤ y)))
  | .gtr => K (.b (decide (x > y)))
  | .geq => K (.b (decide (x ≥ y)))
  | .and => (k = .u64 ∧ 0 ≤ x ∧ x ≤ 18446744073709551615 ∧ y = 4294967295) ∧ K (.i k (x % 4294967296))
  | .xor => (k = .i64 ∧ 0 ≤ x ∧ 0 ≤ y ∧ x < 4611686018427387904 ∧ y < 4611686018427387904) ∧ K (.i k ((x.toNat ^^^ y.toNat : Nat) : Int))
  | _ => False
def aeq : List AV → List AV → Bool
  | [], [] => true
  | .i _ a :: l, .i _ c :: r => decide (a = c) && aeq l r
  | .b a :: l, .b c :: r => decide (a = c) && aeq l r
  | _, _ => false
def aeqOk : List Bool → List AV → List AV → Prop
  | [], [], [] => True
  | true :: q, .i k _ :: l, .i k' _ :: r => k = k' ∧ aeqOk q l r
  | false :: q, .b _ :: l, .b _ :: r => aeqOk q l r
  | _, _, _ => False
inductive LO where
  | mv (x : X)
  | pick (c a b : X)
  | bin (op : BinOp) (x y : X)
  | beq (neg : Bool) (x y : X)
  | aeq (neg : Bool) (q : List Bool) (x y : X)
  | not (x : X)
  | neg (x : X)
  | ld (x : X)
  | ldn (n : Nat) (x : X)
  | st (n : Nat) (a x : X)
  | fa (o : Nat) (x : X)
  | ia (sz : Nat) (x i : X)
  | fld (o : Nat) (x : X)
  | box (ty : TypeId) (x : X)
  | alloc (ty : TypeId) (z : List AV)
  | build (z : List AV) (parts : List (Nat × Nat × X))
  | bsl (ty : TypeId) (z : List AV) (n : Nat) (parts : List (Nat × Nat × X))
  | msl (ty : TypeId) (bytes : Nat) (z : List AV) (l : X)
  | slc (sz : Nat) (x : X) (lo hi mx : Option X)
  | len (x : X)
  | slen (x : X)
  | mn (x y : X)
  | mx (x y : X)
  | app (ty : TypeId) (sz bytes : Nat) (x y : X)
  | appf (ty : TypeId) (sz bytes : Nat) (x y : X)
  | call (f : X) (args : List X)
  | mkf (f : Nat) (first caps : List X)
  | ext (i : Nat) (x : X)
  | conv (k : IntKind) (x : X)
  | nilc (x : X)
  | mkm (k e : TypeId)
  | lk (k e : TypeId) (m x : X)
  | mup (k e : TypeId) (m x v : X)
  | die
  | shr (x y : X)
  | copy (x y : X)
  | snil (x : X)
  | api (ty : TypeId) (x y : X)
  | clr (x : X)
  | sadd (x y : X)
  | scmp (neg : Bool) (x y : X)
  | sidx (x i : X)
  | sslc (x : X) (lo hi : Option X)
  | cvb (x : X)
  | inil (neg : Bool) (x : X)
def toP : AV → Option (Nat × Nat)
  | .p n o => some (n, o)
  | _ => none
def toPs (T : List (Nat × AV)) : List X → Option (List (Nat × Nat))
  | [] => some []
  | x :: l => (toP (ev T x)).bind fun y => (toPs T l).map fun r => y :: r
def pAV (l : List (Nat × Nat)) : List AV := l.map fun x => .p x.1 x.2
def bnd : Option AV → Nat → (Nat → Prop) → Prop
  | none, d, K => K d
  | some (.i _ n), _, K => 0 ≤ n ∧ K n.toNat
  | _, _, _ => False
def fillP (T : List (Nat × AV)) (z : List AV) : List (Nat × Nat × X) → (List AV → Prop) → Prop
  | [], K => K z
  | (o, n, x) :: r, K => ((ev T x).data = true ∧ (ev T x).cl.length = n ∧ o + n ≤ z.length) ∧ fillP T (spl z o (ev T x).cl) r K
def rep : Nat → List AV → List AV
  | 0, _ => []
  | n + 1, z => z ++ rep n z
def win (cs : List AV) (o n : Nat) : List AV := (cs.drop o).take n
def shrv (b a : Int) : Int := if b = 32 then a / 4294967296 else a / 2
def shrOk (b : Int) : Prop := b = 32 ∨ b = 1
theorem shrOk_32 : shrOk 32 = True := eq_true (.inl rfl)
theorem shrOk_1 : shrOk 1 = True := eq_true (.inr rfl)
theorem shrv_32 (a : Int) : shrv 32 a = a / 4294967296 := rfl
theorem shrv_1 (a : Int) : shrv 1 a = a / 2 := rfl
def isBy : List AV → Bool
  | [] => true
  | .i .u8 _ :: r => isBy r
  | _ => false
def toBy : List AV → List UInt8
  | [] => []
  | .i _ n :: r => UInt8.ofNat n.toNat :: toBy r
  | _ :: r => 0 :: toBy r
def wpO (P : Program) (o : LO) (s : St) (K : AV → List AB → Prop) : Prop :=
  match o with
  | .mv x => K (ev s.T x) s.σ
  | .pick c a b => match ev s.T c with
    | .b t => bc t (K (ev s.T a) s.σ) (K (ev s.T b) s.σ)
    | _ => False
  | .bin op x y => match ev s.T x, ev s.T y with
    | .i k a, .i k' b => k = k' ∧ ibin op k a b fun v => K v s.σ
    | _, _ => False
  | .beq neg x y => match ev s.T x, ev s.T y with
    | .b a, .b c => K (.b (if neg then decide (a ≠ c) else decide (a = c))) s.σ
    | _, _ => False
  | .aeq neg q x y => match ev s.T x, ev s.T y with
    | .agg a, .agg c => aeqOk q a c ∧ K (.b (if neg then !(Abs.aeq a c) else Abs.aeq a c)) s.σ
    | _, _ => False
  | .not x => match ev s.T x with
    | .b a => K (.b (!a)) s.σ
    | _ => False
  | .neg x => match ev s.T x with
    | .i k a => fits k (-a) ∧ K (.i k (-a)) s.σ
    | _ => False
  | .ld x => match ev s.T x with
    | .p n o => match cellsOf s.σ n with
      | some cs => o < cs.length ∧ K (rd cs o) s.σ
      | none => False
    | _ => False
  | .ldn k x => match ev s.T x with
    | .p n o => match cellsOf s.σ n with
      | some cs => o + k ≤ cs.length ∧ K (.agg (win cs o k)) s.σ
      | none => False
    | _ => False
  | .st k a x => match ev s.T a with
    | .p n o => match s.σ[n]? with
      | some (.rw ty cs r) => (ev s.T x).data = true ∧ (ev s.T x).cl.length = k ∧ o + k ≤ cs.length ∧ K .j (s.σ.set n (.rw ty (spl cs o (ev s.T x).cl) r))
      | _ => False
    | _ => False
  | .fa d x => match ev s.T x with
    | .p n o => K (.p n (o + d)) s.σ
    | _ => False
  | .ia sz x i => match ev s.T x, ev s.T i with
    | .sl n o len _, .i _ j => (0 ≤ j ∧ j < len) ∧ K (.p n (o + j.toNat * sz)) s.σ
    | _, _ => False
  | .fld d x => match ev s.T x with
    | .agg l => d < l.length ∧ K (rd l d) s.σ
    | _ => False
  | .box ty x => (ev s.T x).data = true ∧ K (.p s.σ.length 0) (s.σ ++ [.rw ty (ev s.T x).cl (ev s.T x).cl.length])
  | .alloc ty z => K (.p s.σ.length 0) (s.σ ++ [.rw ty z z.length])
  | .build z parts => fillP s.T z parts fun cs => K (.agg cs) s.σ
  | .bsl ty z n parts => fillP s.T (rep n z) parts fun cs => K (.sl s.σ.length 0 n n) (s.σ ++ [.rw ty cs (n * z.length)])
  | .msl ty bytes z l => match ev s.T l with
    | .i _ n => (0 ≤ n ∧ (bytes : Int) * n ≤ 281474976710656) ∧ K (.sl s.σ.length 0 n.toNat n.toNat) (s.σ ++ [.rw ty (rep n.toNat z) (n.toNat * z.length)])
    | _ => False
  | .slc sz x lo hi mx => match ev s.T x with
    | .sl n o len cap => bnd (mx.map (ev s.T)) cap fun m => bnd (hi.map (ev s.T)) len fun h => match lo with
      | none => ((hi.isSome = true → h ≤ m ∨ (mx.isSome = false ∧ h ≤ len)) ∧ (mx.isSome = true → m ≤ cap)) ∧ K (.sl n o h m) s.σ
      | some lo => bnd (some (ev s.T lo)) 0 fun l => (l ≤ h ∧ (hi.isSome = true → h ≤ m ∨ (mx.isSome = false ∧ h ≤ len)) ∧ (mx.isSome = true → m ≤ cap)) ∧
          (m ≠ l → K (.sl n (o + l * sz) (h - l) (m - l)) s.σ) ∧ (m = l → K (.sl n o (h - l) (m - l)) s.σ)
    | .sn => bnd (mx.map (ev s.T)) 0 fun m => bnd (hi.map (ev s.T)) 0 fun h => bnd (lo.map (ev s.T)) 0 fun l => (l = 0 ∧ h = 0 ∧ m = 0) ∧ K .sn s.σ
    | _ => False
  | .len x => match ev s.T x with
    | .sl _ _ n _ => K (.i .i64 n) s.σ
    | .sn => K (.i .i64 0) s.σ
    | _ => False
  | .slen x => match ev s.T x with
    | .s b => K (.i .i64 b.size) s.σ
    | _ => False
  | .mn x y => match ev s.T x, ev s.T y with
    | .i k a, .i _ c => K (.i k (if c < a then c else a)) s.σ
    | _, _ => False
  | .mx x y => match ev s.T x, ev s.T y with
    | .i k a, .i _ c => K (.i k (if a < c then c else a)) s.σ
    | _, _ => False
  | .app ty sz bytes x y => match ev s.T x, ev s.T y with
    | .sn, .sl n o m _ => match cellsOf s.σ n with
      | some cs => (o + m * sz ≤ cs.length ∧ m * bytes ≤ 140737488355328 ∧ m ≤ 140737488355328) ∧ (m = 0 → K .sn s.σ) ∧ (0 < m → ∀ cap, m ≤ cap → K (.sl s.σ.length 0 m cap) (s.σ ++ [.rw ty (win cs o (m * sz)) (cap * sz)]))
      | none => False
    | .sl nx ox len cap, .sl n o m _ => match s.σ[nx]?, cellsOf s.σ n with
      | some (.rw ty' old r), some cs => (ty' = ty ∧ ox = 0 ∧ len * sz ≤ old.length ∧ r = cap * sz ∧ o + m * sz ≤ cs.length ∧ (len + m) * bytes ≤ 140737488355328 ∧ len + m ≤ 140737488355328) ∧
          ∀ cap', len + m ≤ cap' → K (.sl s.σ.length 0 (len + m) cap') (s.σ.set nx .dead ++ [.rw ty (old.take (len * sz) ++ win cs o (m * sz)) (cap' * sz)])
      | _, _ => False
    | .sl nx ox len cap, .sn => len ≤ cap ∧ K (.sl nx ox len cap) s.σ
    | .sn, .sn => K .sn s.σ
    | _, _ => False
  | .appf ty sz bytes x y => match ev s.T x, ev s.T y with
    | .sl nx ox len cap, .sl n o m _ => match cellsOf s.σ nx, cellsOf s.σ n with
      | some old, some cs => (ox + len * sz ≤ old.length ∧ len = cap ∧ o + m * sz ≤ cs.length ∧ (len + m) * bytes ≤ 140737488355328 ∧ len + m ≤ 140737488355328) ∧
          (m = 0 → K (.sl nx ox len cap) s.σ) ∧
          (0 < m → ∀ cap', len + m ≤ cap' → K (.sl s.σ.length 0 (len + m) cap') (s.σ ++ [.rw ty (win old ox (len * sz) ++ win cs o (m * sz)) (cap' * sz)]))
      | _, _ => False
    | .sl nx ox len cap, .sn => len ≤ cap ∧ K (.sl nx ox len cap) s.σ
    | .sn, .sl n o m _ => match cellsOf s.σ n with
      | some cs => (o + m * sz ≤ cs.length ∧ m * bytes ≤ 140737488355328 ∧ m ≤ 140737488355328) ∧ (m = 0 → K .sn s.σ) ∧ (0 < m → ∀ cap, m ≤ cap → K (.sl s.σ.length 0 m cap) (s.σ ++ [.rw ty (win cs o (m * sz)) (cap * sz)]))
      | none => False
    | .sn, .sn => K .sn s.σ
    | _, _ => False
  | .call f args => match ev s.T f with
    | .fn g a c => (args.map (ev s.T)).all AV.data = true ∧ CallWp P g (pAV a ++ args.map (ev s.T) ++ pAV c) s.σ K
    | _ => False
  | .mkf f a c => match toPs s.T a, toPs s.T c with
    | some a, some c => K (.fn f a c) s.σ
    | _, _ => False
  | .ext i x => match ev s.T x with
    | .tup l => i < l.length ∧ K (rd l i) s.σ
    | _ => False
  | .conv k x => match ev s.T x with
    | .i _ n => fits k n ∧ K (.i k n) s.σ
    | _ => False
  | .nilc x => match ev s.T x with
    | .p n o => K (.p n o) s.σ
    | .fn f a c => K (.fn f a c) s.σ
    | _ => False
  | .mkm k e => K (.mp s.σ.length) (s.σ ++ [.mb P k e 0 fun _ => none])
  | .lk k e m x => match ev s.T m, ev s.T x with
    | .mp n, .i .i64 y => match s.σ[n]? with
      | some (.mb P' k' e' _ f) => (P' = P ∧ k' = k ∧ e' = e ∧ fits .i64 y) ∧ K (.tup [.i .i64 ((f y).getD 0), .b (f y).isSome]) s.σ
      | _ => False
    | _, _ => False
  | .mup k e m x v => match ev s.T m, ev s.T x, ev s.T v with
    | .mp n, .i .i64 y, .i .i64 z => match s.σ[n]? with
      | some (.mb P' k' e' c f) => (P' = P ∧ k' = k ∧ e' = e ∧ fits .i64 y ∧ fits .i64 z ∧ c < 1099511627776) ∧ K .j (s.σ.set n (.mb P k e (c + 1) fun u => if u = y then some z else f u))
      | _ => False
    | _, _, _ => False
  | .die => False
  | .snil x => match ev s.T x with
    | .sl _ _ len cap => (len = 0 → cap = 0 → K (.b true) s.σ) ∧ K (.b false) s.σ
    | .sn => K (.b true) s.σ
    | _ => False
  | .shr x y => match ev s.T x, ev s.T y with
    | .i k a, .i _ b => (k = .u64 ∧ shrOk b ∧ 0 ≤ a) ∧ K (.i k (shrv b a)) s.σ
    | _, _ => False
  | .copy x y => match ev s.T x, ev s.T y with
    | .sl nx ox lx _, .sl n o m _ => match s.σ[nx]?, cellsOf s.σ n with
      | some (.rw ty cs r), some cs' => (ox + Nat.min m lx ≤ cs.length ∧ o + Nat.min m lx ≤ cs'.length) ∧ K (.i .i64 (Nat.min m lx)) (s.σ.set nx (.rw ty (spl cs ox (win cs' o (Nat.min m lx))) r))
      | _, _ => False
    | _, _ => False
  | .api ty x y => match ev s.T x, ev s.T y with
    | .sl nx ox len cap, .sl n o m _ => match s.σ[nx]?, cellsOf s.σ n with
      | some (.rw ty' old r), some cs => (ty' = ty ∧ ox = 0 ∧ len + m ≤ cap ∧ r = cap ∧ len + m ≤ old.length ∧ o + m ≤ cs.length) ∧ K (.sl nx 0 (len + m) cap) (s.σ.set nx (.rw ty (spl old len (win cs o m)) r))
      | _, _ => False
    | _, _ => False
  | .sadd x y => match ev s.T x, ev s.T y with
    | .s a, .s b => a.size + b.size ≤ 9223372036854775807 ∧ K (.s (a ++ b)) s.σ
    | _, _ => False
  | .scmp neg x y => match ev s.T x, ev s.T y with
    | .s a, .s b => K (.b (if neg then decide (a ≠ b) else decide (a = b))) s.σ
    | _, _ => False
  | .sidx x i => match ev s.T x, ev s.T i with
    | .s a, .i _ j => (0 ≤ j ∧ j < a.size) ∧ K (.i .u8 ((a.data.toList.getD j.toNat 0).toNat : Nat)) s.σ
    | _, _ => False
  | .sslc x lo hi => match ev s.T x with
    | .s a => bnd (lo.map (ev s.T)) 0 fun l => bnd (hi.map (ev s.T)) a.size fun h => (l ≤ h ∧ h ≤ a.size) ∧ K (.s (a.extract l h)) s.σ
    | _ => False
  | .cvb x => match ev s.T x with
    | .sl n o len _ => match cellsOf s.σ n with
      | some cs => (o + len ≤ cs.length ∧ isBy (win cs o len) = true) ∧ K (.s ⟨(toBy (win cs o len)).toArray⟩) s.σ
      | none => False
    | _ => False
  | .inil neg x => match ev s.T x with
    | .ex .nilIface => K (.b (!neg)) s.σ
    | .ex (.iface _ _) => K (.b neg) s.σ
    | _ => False
  | .clr x => match ev s.T x with
    | .sl n o len _ => match s.σ[n]? with
      | some (.rw ty cs r) => o + len ≤ cs.length ∧ K (.tup []) (s.σ.set n (.rw ty (spl cs o (List.replicate len (.i .i64 0))) r))
      | _ => False
    | _ => False
end Go.Abs
