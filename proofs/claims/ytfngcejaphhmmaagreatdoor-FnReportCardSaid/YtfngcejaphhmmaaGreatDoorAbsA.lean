import Derived.Calls
import Derived.Orders
import Derived.Laws.AppendOwn
import Derived.Laws.MakeOwn
import Derived.Laws.OwnMore
import Derived.Laws.Slices
import Derived.Laws.StructEq
import Derived.Laws.CopyRow
import Derived.Maps.OwnSet
import Derived.Laws.DeepStrings4
import Derived.Laws.Concat
import Derived.Laws.BytesString
import Derived.Laws.Strings
import Derived.WideLaws
namespace Go.Abs
set_option linter.unusedVariables false
def bs (l : List UInt8) : ByteArray := ⟨l.toArray⟩
theorem bs_append (a b : List UInt8) : bs a ++ bs b = bs (a ++ b) := ByteArray.mk_append_mk a b
theorem bs_size (l : List UInt8) : (bs l).size = l.length := by simp [bs, ByteArray.size]
theorem bs_data (l : List UInt8) : (bs l).data.toList = l := by simp [bs]
theorem bs_inj {a b : List UInt8} : bs a = bs b ↔ a = b := ⟨fun h => by have := congrArg (fun x => x.data.toList) h; simpa [bs] using this, fun h => by rw [h]⟩
theorem bs_of (s : ByteArray) : bs s.data.toList = s := by cases s; simp [bs]
theorem bs_extract (l : List UInt8) (i j : Nat) : (bs l).extract i j = bs ((l.take j).drop i) := by
  apply ByteArray.ext
  simp [bs, List.drop_take]
/-- A value over named blocks. -/
inductive AV where
  | b (x : Bool)
  | i (k : IntKind) (n : Int)
  | s (x : ByteArray)
  | p (n o : Nat)
  | pn
  | sl (n o len cap : Nat)
  | sn
  | fn (f : Nat) (first caps : List (Nat × Nat))
  | fnil
  | mp (n : Nat)
  | j
  | agg (l : List AV)
  | tup (l : List AV)
  | ex (v : Value)
  deriving Inhabited
abbrev AV.int (n : Int) : AV := .i .i64 n
/-- A block over named blocks. -/
inductive AB where
  | dead
  | ro (cells : List AV)
  | rw (ty : TypeId) (cells : List AV) (room : Nat)
  | mb (P : Program) (k e : TypeId) (n : Nat) (f : Int → Option Int)
  | gl (b : Nat) (v : Value)
  deriving Inhabited
abbrev Pl := Nat → Nat × Nat
def ad (ρ : Pl) (n o : Nat) : Addr := ⟨(ρ n).1, (ρ n).2 + o, none⟩
def ptrs (ρ : Pl) (l : List (Nat × Nat)) : List Value := l.map fun x => .pointer (some (ad ρ x.1 x.2))
def MC (ρ : Pl) (N : Nat) : AV → Value → Prop
  | .b x, v => v = .bool x
  | .i k n, v => v = .int k n
  | .s x, v => v = .string x
  | .p n o, v => n < N ∧ v = .pointer (some (ad ρ n o))
  | .pn, v => v = .pointer none
  | .sl n o len cap, v => n < N ∧ len ≤ cap ∧ (v = .slice (some (ad ρ n o)) len cap ∨ (len = 0 ∧ cap = 0 ∧ v = .slice none 0 0))
  | .sn, v => v = .slice none 0 0
  | .fn f a c, v => (∀ x ∈ a, x.1 < N) ∧ (∀ x ∈ c, x.1 < N) ∧ v = .func (.func f) (ptrs ρ a).toArray (ptrs ρ c).toArray
  | .fnil, v => v = .nilFunc
  | .mp n, v => n < N ∧ v = .map (some (ρ n).1)
  | .j, v => v.oneCell' = true
  | .ex u, v => v.oneCell' = true ∧ v = u
  | .agg _, _ => False
  | .tup _, _ => False
def MCs (ρ : Pl) (N : Nat) : List AV → List Value → Prop
  | [], [] => True
  | x :: l, v :: r => MC ρ N x v ∧ MCs ρ N l r
  | _, _ => False
def M1 (ρ : Pl) (N : Nat) : AV → Value → Prop
  | .agg l, v => ∃ vs : List Value, v = .agg vs.toArray ∧ MCs ρ N l vs
  | x, v => MC ρ N x v
def M1s (ρ : Pl) (N : Nat) : List AV → List Value → Prop
  | [], [] => True
  | x :: l, v :: r => M1 ρ N x v ∧ M1s ρ N l r
  | _, _ => False
def M (ρ : Pl) (N : Nat) : AV → Value → Prop
  | .tup l, v => ∃ vs : List Value, v = .tuple vs.toArray ∧ M1s ρ N l vs
  | .j, _ => True
  | x, v => M1 ρ N x v
def Cells (ρ : Pl) (N : Nat) (c : Array Value) (o : Nat) (cs : List AV) : Prop :=
  ∀ (k : Nat) (x : AV), cs[k]? = some x → ∃ v, c[o + k]? = some v ∧ MC ρ N x v
def live : AB → Prop
  | .dead => False
  | .ro cs => cs ≠ []
  | .rw _ _ r => r ≠ 0
  | .mb .. => True
  | .gl .. => True
def MapIs (P : Program) (k e : TypeId) (w : World) (b n : Nat) (f : Int → Option Int) : Prop :=
  ∃ D : DataW Unit, w.ownsMap P k (plainElem P e) b n D ∧ ∀ x, Maps.has D (.int .i64 x) = (f x).isSome ∧ D.atKey (.int .i64 x) (.lit (.int .i64 0)) = .lit (.int .i64 ((f x).getD 0))
theorem MapIs.heap {P : Program} {k e : TypeId} {w w' : World} {b n : Nat} {f : Int → Option Int} (h : MapIs P k e w b n f) (hb : w'.heap[b]? = w.heap[b]?) : MapIs P k e w' b n f := by
  obtain ⟨D, ⟨es, clock, h1, h2⟩, h3⟩ := h
  exact ⟨D, ⟨es, clock, hb.trans h1, h2⟩, h3⟩
theorem MapIs.lt {P : Program} {k e : TypeId} {w : World} {b n : Nat} {f : Int → Option Int} (h : MapIs P k e w b n f) : b < w.heap.size := by
  obtain ⟨D, h1, _⟩ := h
  exact h1.lt
def isW : AB → Prop
  | .rw _ _ r => r ≠ 0
  | .mb .. => True
  | _ => False
theorem isW.live {B : AB} (h : isW B) : live B := by cases B <;> first | exact h | exact h.elim
def Holds (ρ : Pl) (N : Nat) (w : World) (a : Nat × Nat) : AB → Prop
  | .dead => True
  | .ro cs => cs ≠ [] → ∃ c T fr, w.heap[a.1]? = some (.cells c T fr) ∧ Cells ρ N c a.2 cs
  | .rw ty cs room => cs.length ≤ room ∧ (room ≠ 0 → a.2 = 0 ∧ ∃ c, w.heap[a.1]? = some (.cells c ty (0, 0)) ∧ c.size = room ∧ Cells ρ N c 0 cs)
  | .mb P k e n f => a.2 = 0 ∧ MapIs P k e w a.1 n f
  | .gl b v => a = (b, 0) ∧ ∃ T fr, w.heap[a.1]? = some (.cells v.cells T fr)
/-- What stays: the streams, the tape, the blocks of Z. -/
structure Fr where
  Z : Nat → Option Obj
  os : Os
  tape : Nat → Question → Nat
  out : Array (Nat × ByteArray)
  sz : Nat
structure Sim (F : Fr) (ρ : Pl) (σ : List AB) (w : World) : Prop where
  os : w.os = F.os
  tape : w.tape = F.tape
  out : w.output = F.out
  sz : F.sz ≤ w.heap.size
  fr : ∀ b o, F.Z b = some o → w.heap[b]? = some o
  bl : ∀ n B, σ[n]? = some B → Holds ρ σ.length w (ρ n) B
  own : ∀ n B0, σ[n]? = some B0 → isW B0 → F.Z (ρ n).1 = none ∧ ∀ m B, m ≠ n → σ[m]? = some B → live B → (ρ m).1 ≠ (ρ n).1
def Enters (P : Program) (f : FuncId) : Prop := ∃ fn, P.funcs[f]? = some fn ∧ (fn.name == "runtime.NumGoroutine") = false ∧ fn.body.isNone = false
def CallWp (P : Program) (f : FuncId) (args : List AV) (σ : List AB) (K : AV → List AB → Prop) : Prop :=
  Enters P f ∧ ∀ F ρ w vs, Sim F ρ σ w → M1s ρ σ.length args vs →
    Calls P f vs.toArray w fun e w' => ∃ v x σ' ρ', e = .returned v ∧ Sim F ρ' σ' w' ∧ σ.length ≤ σ'.length ∧ (∀ n, n < σ.length → ρ' n = ρ n) ∧ M ρ' σ'.length x v ∧ K x σ'
theorem CallWp.mono {P : Program} {f : FuncId} {args : List AV} {σ : List AB} {K K' : AV → List AB → Prop}
    (h : CallWp P f args σ K) (hk : ∀ x σ', σ.length ≤ σ'.length → K x σ' → K' x σ') : CallWp P f args σ K' :=
  ⟨h.1, fun F ρ w vs hs hv => (h.2 F ρ w vs hs hv).mono fun e w' ⟨v, x, σ', ρ', he, h1, h2, h3, h4, h5⟩ => ⟨v, x, σ', ρ', he, h1, h2, h3, h4, hk x σ' h2 h5⟩⟩
/-! ### the relations, first laws -/
theorem MC.one {ρ : Pl} {N : Nat} {x : AV} {v : Value} (h : MC ρ N x v) : v.oneCell' = true := by
  cases x <;> simp only [MC] at h <;> first
    | (subst h; rfl)
    | exact h
    | exact h.1
    | (obtain ⟨_, rfl⟩ := h; rfl)
    | (obtain ⟨_, _, rfl | ⟨_, _, rfl⟩⟩ := h <;> rfl)
    | (obtain ⟨_, _, rfl⟩ := h; rfl)
theorem ptrs_ext {ρ ρ' : Pl} {N : Nat} {l : List (Nat × Nat)} (h : ∀ n, n < N → ρ' n = ρ n) (hl : ∀ x ∈ l, x.1 < N) : ptrs ρ' l = ptrs ρ l := by
  unfold ptrs
  apply List.map_congr_left
  intro x hx
  simp [ad, h _ (hl x hx)]
theorem MC.ext {ρ ρ' : Pl} {N N' : Nat} {x : AV} {v : Value} (hN : N ≤ N') (he : ∀ n, n < N → ρ' n = ρ n) (h : MC ρ N x v) : MC ρ' N' x v := by
  cases x <;> simp only [MC] at h ⊢ <;> first
    | exact h
    | (obtain ⟨h1, rfl⟩ := h; exact ⟨by omega, by simp [ad, he _ h1]⟩)
    | (obtain ⟨h1, h0, rfl | ⟨rfl, rfl, rfl⟩⟩ := h
       · exact ⟨by omega, h0, .inl (by simp [ad, he _ h1])⟩
       · exact ⟨by omega, h0, .inr ⟨rfl, rfl, rfl⟩⟩)
    | (obtain ⟨h1, h2, rfl⟩ := h; exact ⟨fun y hy => by have := h1 y hy; omega, fun y hy => by have := h2 y hy; omega, by rw [ptrs_ext he h1, ptrs_ext he h2]⟩)
theorem MCs.ext {ρ ρ' : Pl} {N N' : Nat} (hN : N ≤ N') (he : ∀ n, n < N → ρ' n = ρ n) : ∀ {l : List AV} {vs : List Value}, MCs ρ N l vs → MCs ρ' N' l vs
  | [], [], _ => trivial
  | _ :: _, _ :: _, h => ⟨h.1.ext hN he, MCs.ext hN he h.2⟩
theorem M1.ext {ρ ρ' : Pl} {N N' : Nat} {x : AV} {v : Value} (hN : N ≤ N') (he : ∀ n, n < N → ρ' n = ρ n) (h : M1 ρ N x v) : M1 ρ' N' x v := by
  cases x
  case agg l => obtain ⟨vs, hv, hl⟩ := h; exact ⟨vs, hv, hl.ext hN he⟩
  all_goals (simp only [M1] at h ⊢; exact MC.ext hN he h)
theorem M1s.ext {ρ ρ' : Pl} {N N' : Nat} (hN : N ≤ N') (he : ∀ n, n < N → ρ' n = ρ n) : ∀ {l : List AV} {vs : List Value}, M1s ρ N l vs → M1s ρ' N' l vs
  | [], [], _ => trivial
  | _ :: _, _ :: _, h => ⟨h.1.ext hN he, M1s.ext hN he h.2⟩
theorem M.ext {ρ ρ' : Pl} {N N' : Nat} {x : AV} {v : Value} (hN : N ≤ N') (he : ∀ n, n < N → ρ' n = ρ n) (h : M ρ N x v) : M ρ' N' x v := by
  cases x
  case tup l => obtain ⟨vs, hv, hl⟩ := h; exact ⟨vs, hv, hl.ext hN he⟩
  case j => trivial
  all_goals (simp only [M] at h ⊢; exact M1.ext hN he h)
theorem M.ofM1 {ρ : Pl} {N : Nat} {x : AV} {v : Value} (h : M1 ρ N x v) : M ρ N x v := by
  cases x <;> first | exact h | trivial | exact absurd h (by simp [M1, MC])
theorem M.ofMC {ρ : Pl} {N : Nat} {x : AV} {v : Value} (h : MC ρ N x v) : M ρ N x v := by
  cases x <;> first | exact h | trivial | exact absurd h (by simp [MC])
theorem M1.ofMC {ρ : Pl} {N : Nat} {x : AV} {v : Value} (h : MC ρ N x v) : M1 ρ N x v := by
  cases x <;> first | exact h | exact absurd h (by simp [MC])
theorem MCs.length {ρ : Pl} {N : Nat} : ∀ {l : List AV} {vs : List Value}, MCs ρ N l vs → l.length = vs.length
  | [], [], _ => rfl
  | _ :: _, _ :: _, h => by simp [h.2.length]
  | [], _ :: _, h => h.elim
  | _ :: _, [], h => h.elim
theorem MCs.get {ρ : Pl} {N : Nat} : ∀ {l : List AV} {vs : List Value}, MCs ρ N l vs → ∀ {k : Nat} {x : AV}, l[k]? = some x → ∃ v, vs[k]? = some v ∧ MC ρ N x v
  | [], [], _, k, x, h => by simp at h
  | y :: l, v :: vs, h, 0, x, hx => by simp at hx; subst hx; exact ⟨v, rfl, h.1⟩
  | y :: l, v :: vs, h, k + 1, x, hx => by simp at hx ⊢; exact h.2.get hx
  | [], _ :: _, h, _, _, _ => h.elim
  | _ :: _, [], h, _, _, _ => h.elim
theorem MCs.ones {ρ : Pl} {N : Nat} : ∀ {l : List AV} {vs : List Value}, MCs ρ N l vs → ∀ v ∈ vs, v.oneCell' = true
  | [], [], _, v, h => by simp at h
  | y :: l, u :: vs, h, v, hv => by
    rcases List.mem_cons.1 hv with rfl | hv
    · exact h.1.one
    · exact h.2.ones v hv
  | [], _ :: _, h, _, _ => h.elim
  | _ :: _, [], h, _, _ => h.elim
theorem MCs.append {ρ : Pl} {N : Nat} : ∀ {l l' : List AV} {vs vs' : List Value}, MCs ρ N l vs → MCs ρ N l' vs' → MCs ρ N (l ++ l') (vs ++ vs')
  | [], _, [], _, _, h => h
  | _ :: _, _, _ :: _, _, h, h' => ⟨h.1, h.2.append h'⟩
  | [], _, _ :: _, _, h, _ => h.elim
  | _ :: _, _, [], _, h, _ => h.elim
theorem MCs.of_get {ρ : Pl} {N : Nat} : ∀ {l : List AV} {vs : List Value}, l.length = vs.length → (∀ (k : Nat) (x : AV), l[k]? = some x → ∃ v, vs[k]? = some v ∧ MC ρ N x v) → MCs ρ N l vs
  | [], [], _, _ => trivial
  | y :: l, v :: vs, hl, h => by
    obtain ⟨v', hv', hm⟩ := h 0 y rfl
    simp at hv'; subst hv'
    exact ⟨hm, MCs.of_get (by simpa using hl) fun k x hk => by simpa using h (k + 1) x (by simpa using hk)⟩
  | [], _ :: _, hl, _ => by simp at hl
  | _ :: _, [], hl, _ => by simp at hl
theorem M1s.append {ρ : Pl} {N : Nat} : ∀ {l l' : List AV} {vs vs' : List Value}, M1s ρ N l vs → M1s ρ N l' vs' → M1s ρ N (l ++ l') (vs ++ vs')
  | [], _, [], _, _, h => h
  | _ :: _, _, _ :: _, _, h, h' => ⟨h.1, h.2.append h'⟩
  | [], _, _ :: _, _, h, _ => h.elim
  | _ :: _, _, [], _, h, _ => h.elim
theorem Cells.ext {ρ ρ' : Pl} {N N' : Nat} {c : Array Value} {o : Nat} {cs : List AV} (hN : N ≤ N') (he : ∀ n, n < N → ρ' n = ρ n) (h : Cells ρ N c o cs) : Cells ρ' N' c o cs :=
  fun k x hk => let ⟨v, h1, h2⟩ := h k x hk; ⟨v, h1, h2.ext hN he⟩
theorem Cells.take {ρ : Pl} {N : Nat} {c : Array Value} {o : Nat} : ∀ {cs : List AV}, Cells ρ N c o cs → ∃ vs, MCs ρ N cs vs ∧ ∀ (k : Nat) (v : Value), vs[k]? = some v → c[o + k]? = some v
  | [], _ => ⟨[], trivial, by simp⟩
  | x :: cs, h => by
    obtain ⟨v, hv, hm⟩ := h 0 x rfl
    have h' : Cells ρ N c (o + 1) cs := fun k y hk => by
      obtain ⟨u, hu, hmu⟩ := h (k + 1) y (by simpa using hk)
      exact ⟨u, by rw [show o + 1 + k = o + (k + 1) from by omega]; exact hu, hmu⟩
    obtain ⟨vs, h1, h2⟩ := Cells.take h'
    refine ⟨v :: vs, ⟨hm, h1⟩, ?_⟩
    intro k u hk
    cases k with
    | zero => simp at hk; subst hk; simpa using hv
    | succ k => rw [show o + (k + 1) = o + 1 + k from by omega]; exact h2 k u (by simpa using hk)
theorem Cells.sub {ρ : Pl} {N : Nat} {c : Array Value} {o : Nat} {cs : List AV} (h : Cells ρ N c o cs) (d n : Nat) : Cells ρ N c (o + d) ((cs.drop d).take n) := by
  intro k x hk
  rw [List.getElem?_take] at hk
  split at hk
  · rw [List.getElem?_drop] at hk
    obtain ⟨v, h1, h2⟩ := h (d + k) x hk
    exact ⟨v, by rw [show o + d + k = o + (d + k) from by omega]; exact h1, h2⟩
  · cases hk
/-! ### the state -/
def look : List (Nat × AV) → Nat → AV
  | [], _ => .j
  | (d, v) :: r, t => if d = t then v else look r t
structure St where
  T : List (Nat × AV)
  σ : List AB
def SimS (F : Fr) (ρ : Pl) (nt : Nat) (s : St) (a : Act) (w : World) : Prop :=
  Sim F ρ s.σ w ∧ a.defers = [] ∧ a.tmps.size = nt ∧ ∀ t, M ρ s.σ.length (look s.T t) (a.tmps.getD t undef)
theorem getD_set (a : Array Value) (d t : Nat) (v u : Value) (hd : d < a.size) : (a.setIfInBounds d v).getD t u = if d = t then v else a.getD t u := by
  simp only [Array.getD_eq_getD_getElem?, Array.getElem?_setIfInBounds]
  by_cases h : d = t
  · subst h; simp [hd]
  · simp [h]
theorem SimS.put {F : Fr} {ρ ρ' : Pl} {nt : Nat} {s : St} {a : Act} {w w' : World} (h : SimS F ρ nt s a w) {σ' : List AB} (h' : Sim F ρ' σ' w') (hN : s.σ.length ≤ σ'.length)
    (he : ∀ n, n < s.σ.length → ρ' n = ρ n) {d : Nat} (hd : d < nt) {x : AV} {v : Value} (hx : M ρ' σ'.length x v) : SimS F ρ' nt ⟨(d, x) :: s.T, σ'⟩ (a.put (some d) v) w' := by
  obtain ⟨h1, h2, h3, h4⟩ := h
  refine ⟨h', h2, by simp [Act.put, h3], fun t => ?_⟩
  simp only [Act.put, look]
  rw [getD_set _ _ _ _ _ (by omega)]
  by_cases ht : d = t
  · simp [ht, hx]
  · simp only [ht, if_false]; exact (h4 t).ext hN he
theorem SimS.same {F : Fr} {ρ ρ' : Pl} {nt : Nat} {s : St} {a : Act} {w w' : World} (h : SimS F ρ nt s a w) {σ' : List AB} (h' : Sim F ρ' σ' w') (hN : s.σ.length ≤ σ'.length)
    (he : ∀ n, n < s.σ.length → ρ' n = ρ n) : SimS F ρ' nt ⟨s.T, σ'⟩ a w' :=
  ⟨h', h.2.1, h.2.2.1, fun t => (h.2.2.2 t).ext hN he⟩
/-! ### steps of the world -/
theorem Sim.lt {F : Fr} {ρ : Pl} {σ : List AB} {w : World} (h : Sim F ρ σ w) {n : Nat} {B : AB} (hn : σ[n]? = some B) (hd : live B) : (ρ n).1 < w.heap.size := by
  have hb := h.bl n B hn
  cases B with
  | dead => exact hd.elim
  | ro cs => obtain ⟨c, T, fr, hc, _⟩ := hb hd; exact (Array.getElem?_eq_some_iff.1 hc).1
  | rw ty cs r => obtain ⟨_, c, hc, _⟩ := hb.2 hd; exact (Array.getElem?_eq_some_iff.1 hc).1
  | mb P k e q f => exact hb.2.lt
  | gl b v => obtain ⟨_, T, fr, hc⟩ := hb; exact (Array.getElem?_eq_some_iff.1 hc).1
theorem Sim.drew {F : Fr} {ρ : Pl} {σ : List AB} {w : World} (h : Sim F ρ σ w) : Sim F ρ σ w.drew :=
  ⟨h.os, h.tape, h.out, h.sz, h.fr, fun n B hn => by have := h.bl n B hn; cases B <;> exact this, h.own⟩
theorem Holds.heap {ρ : Pl} {N : Nat} {w w' : World} {a : Nat × Nat} {B : AB} (h : Holds ρ N w a B) (hb : live B → w'.heap[a.1]? = w.heap[a.1]?) : Holds ρ N w' a B := by
  cases B with
  | dead => trivial
  | ro cs => intro hne; obtain ⟨c, T, fr, hc, hx⟩ := h hne; exact ⟨c, T, fr, by rw [hb hne]; exact hc, hx⟩
  | rw ty cs r => refine ⟨h.1, fun hr => ?_⟩; obtain ⟨h0, c, hc, hx⟩ := h.2 hr; exact ⟨h0, c, by rw [hb hr]; exact hc, hx⟩
  | mb P k e q f => exact ⟨h.1, h.2.heap (hb trivial)⟩
  | gl b v => obtain ⟨h0, T, fr, hc⟩ := h; exact ⟨h0, T, fr, by rw [hb trivial]; exact hc⟩
theorem Holds.ext {ρ ρ' : Pl} {N N' : Nat} {w : World} {a : Nat × Nat} {B : AB} (hN : N ≤ N') (he : ∀ n, n < N → ρ' n = ρ n) (h : Holds ρ N w a B) : Holds ρ' N' w a B := by
  cases B with
  | dead => trivial
  | ro cs => intro hne; obtain ⟨c, T, fr, hc, hx⟩ := h hne; exact ⟨c, T, fr, hc, hx.ext hN he⟩
  | rw ty cs r => refine ⟨h.1, fun hr => ?_⟩; obtain ⟨h0, c, hc, hr, hx⟩ := h.2 hr; exact ⟨h0, c, hc, hr, hx.ext hN he⟩
  | mb P k e q f => exact h
  | gl b v => exact h
def plus (ρ : Pl) (N : Nat) (a : Nat × Nat) : Pl := fun n => if n = N then a else ρ n
theorem plus_new (ρ : Pl) (N : Nat) (a : Nat × Nat) : plus ρ N a N = a := by simp [plus]
theorem plus_old (ρ : Pl) (N : Nat) (a : Nat × Nat) {n : Nat} (h : n < N) : plus ρ N a n = ρ n := by simp [plus]; omega
theorem Sim.adoptB {F : Fr} {ρ : Pl} {σ : List AB} {w : World} (h : Sim F ρ σ w) (C : AB) (a : Nat × Nat) (hh : Holds (plus ρ σ.length a) (σ.length + 1) w a C)
    (hl : live C → isW C) (hz : isW C → F.Z a.1 = none ∧ ∀ m B, σ[m]? = some B → live B → (ρ m).1 ≠ a.1) : Sim F (plus ρ σ.length a) (σ ++ [C]) w := by
  have hE : ∀ n, n < σ.length → plus ρ σ.length a n = ρ n := fun n hn => plus_old _ _ _ hn
  have hlen : (σ ++ [C]).length = σ.length + 1 := by simp
  refine ⟨h.os, h.tape, h.out, h.sz, h.fr, ?_, ?_⟩
  · intro n B hn
    rw [hlen]
    by_cases hlt : n < σ.length
    · rw [List.getElem?_append_left hlt] at hn
      rw [hE n hlt]
      exact (h.bl n B hn).ext (by omega) hE
    · have hn' := (List.getElem?_eq_some_iff.1 hn).1
      rw [hlen] at hn'
      have hnn : n = σ.length := by omega
      subst hnn
      simp at hn
      subst hn
      rw [plus_new]
      exact hh
  · intro n B0 hn hr
    by_cases hlt : n < σ.length
    · rw [List.getElem?_append_left hlt] at hn
      rw [hE n hlt]
      obtain ⟨hz', ho⟩ := h.own n B0 hn hr
      refine ⟨hz', fun m B hm hB hd => ?_⟩
      by_cases hml : m < σ.length
      · rw [List.getElem?_append_left hml] at hB
        rw [hE m hml]
        exact ho m B hm hB hd
      · have hm' := (List.getElem?_eq_some_iff.1 hB).1
        rw [hlen] at hm'
        have hmm : m = σ.length := by omega
        subst hmm
        simp at hB
        subst hB
        rw [plus_new]
        exact fun e => (hz (hl hd)).2 n _ hn hr.live e.symm
    · have hn' := (List.getElem?_eq_some_iff.1 hn).1
      rw [hlen] at hn'
      have hnn : n = σ.length := by omega
      subst hnn
      simp at hn
      subst hn
      rw [plus_new]
      refine ⟨(hz hr).1, fun m B hm hB hd => ?_⟩
      have hml : m < σ.length := by
        have := (List.getElem?_eq_some_iff.1 hB).1
        rw [hlen] at this
        omega
      rw [List.getElem?_append_left hml] at hB
      rw [hE m hml]
      exact (hz hr).2 m B hB hd
theorem Sim.adopt {F : Fr} {ρ : Pl} {σ : List AB} {w : World} (h : Sim F ρ σ w) (ty : TypeId) (cs : List AV) (r : Nat) (a : Nat × Nat) (hh : Holds (plus ρ σ.length a) (σ.length + 1) w a (.rw ty cs r))
    (hz : r ≠ 0 → F.Z a.1 = none ∧ ∀ m B, σ[m]? = some B → live B → (ρ m).1 ≠ a.1) : Sim F (plus ρ σ.length a) (σ ++ [.rw ty cs r]) w :=
  h.adoptB _ a hh id hz
theorem Sim.beside {F : Fr} {ρ : Pl} {σ : List AB} {w w' : World} (h : Sim F ρ σ w) (h1 : w'.os = w.os) (h2 : w'.tape = w.tape) (h3 : w'.output = w.output) (h4 : w.heap.size ≤ w'.heap.size)
    (h5 : ∀ i, i < w.heap.size → w'.heap[i]? = w.heap[i]?) : Sim F ρ σ w' := by
  refine ⟨h1.trans h.os, h2.trans h.tape, h3.trans h.out, Nat.le_trans h.sz h4, ?_, ?_, h.own⟩
  · intro b o hb
    have := h.fr b o hb
    rw [h5 b (Array.getElem?_eq_some_iff.1 this).1]
    exact this
  · intro n B hn
    exact (h.bl n B hn).heap fun hd => h5 _ (h.lt hn hd)
theorem Cells.of_pre {ρ : Pl} {N : Nat} {cs : List AV} {vs more : List Value} (h : MCs ρ N cs vs) : Cells ρ N (vs ++ more).toArray 0 cs := by
  intro k x hk
  obtain ⟨v, h1, h2⟩ := h.get hk
  refine ⟨v, ?_, h2⟩
  have := (List.getElem?_eq_some_iff.1 h1).1
  simp [List.getElem?_append_left this, h1]
theorem Sim.alloc {F : Fr} {ρ : Pl} {σ : List AB} {w : World} (h : Sim F ρ σ w) (ty : TypeId) (cs : List AV) (vs : List Value) (more : List Value) (hv : MCs ρ σ.length cs vs) :
    Sim F (plus ρ σ.length (w.heap.size, 0)) (σ ++ [.rw ty cs (vs.length + more.length)]) (w.alloc (.cells (vs ++ more).toArray ty)) := by
  have hold : ∀ i, i < w.heap.size → (w.alloc (.cells (vs ++ more).toArray ty)).heap[i]? = w.heap[i]? := fun i hi => heap_alloc_old w _ i hi
  have hE : ∀ n, n < σ.length → plus ρ σ.length (w.heap.size, 0) n = ρ n := fun n hn => plus_old _ _ _ hn
  refine (h.beside (w' := w.alloc (.cells (vs ++ more).toArray ty)) rfl rfl rfl (by simp) hold).adopt ty cs _ (w.heap.size, 0) ⟨by have := hv.length; omega, fun _ => ⟨rfl, (vs ++ more).toArray, heap_alloc_new w _, by simp, ?_⟩⟩ fun _ => ⟨?_, ?_⟩
  · exact (Cells.of_pre hv).ext (by omega) hE
  · cases hz : F.Z w.heap.size with
    | none => rfl
    | some o => have := (Array.getElem?_eq_some_iff.1 (h.fr _ _ hz)).1; omega
  · intro m B hB hd
    have := h.lt hB hd
    simp only; omega
theorem Sim.writeB {F : Fr} {ρ : Pl} {σ : List AB} {w w' : World} (h : Sim F ρ σ w) {n : Nat} {B0 B1 : AB} (hn : σ[n]? = some B0) (hr0 : isW B0) (hl1 : live B1 → isW B1)
    (h1 : w'.os = w.os) (h2 : w'.tape = w.tape) (h3 : w'.output = w.output) (h4 : w.heap.size ≤ w'.heap.size) (h5 : ∀ i, i < w.heap.size → i ≠ (ρ n).1 → w'.heap[i]? = w.heap[i]?)
    (hh : Holds ρ σ.length w' (ρ n) B1) : Sim F ρ (σ.set n B1) w' := by
  obtain ⟨hz, ho⟩ := h.own n B0 hn hr0
  have hlt := (List.getElem?_eq_some_iff.1 hn).1
  refine ⟨h1.trans h.os, h2.trans h.tape, h3.trans h.out, Nat.le_trans h.sz h4, ?_, ?_, ?_⟩
  · intro b o hb
    have := h.fr b o hb
    rw [h5 b (Array.getElem?_eq_some_iff.1 this).1 (fun e => by rw [e, hz] at hb; cases hb)]
    exact this
  · intro m B hm
    rw [List.length_set]
    rw [List.getElem?_set] at hm
    by_cases e : n = m
    · subst e
      simp [hlt] at hm
      subst hm
      exact hh
    · simp only [e, if_false] at hm
      exact (h.bl m B hm).heap fun hd => h5 _ (h.lt hm hd) (ho m B (fun x => e x.symm) hm hd)
  · intro m B2 hm hr2
    rw [List.getElem?_set] at hm
    by_cases e : n = m
    · subst e
      refine ⟨hz, fun k B hk hB hd => ho k B hk ?_ hd⟩
      rw [List.getElem?_set] at hB
      rw [if_neg (fun x => hk x.symm)] at hB
      exact hB
    · simp only [e, if_false] at hm
      obtain ⟨hz', ho'⟩ := h.own m B2 hm hr2
      refine ⟨hz', fun k B hk hB hd => ?_⟩
      rw [List.getElem?_set] at hB
      by_cases e' : n = k
      · subst e'
        exact fun x => ho m _ (fun x => e x.symm) hm hr2.live x.symm
      · simp only [e', if_false] at hB
        exact ho' k B hk hB hd
theorem Sim.write {F : Fr} {ρ : Pl} {σ : List AB} {w w' : World} (h : Sim F ρ σ w) {n : Nat} {ty : TypeId} {cs cs' : List AV} {r r' : Nat} (hn : σ[n]? = some (.rw ty cs r)) (hr0 : r ≠ 0) (c : Array Value)
    (h1 : w'.os = w.os) (h2 : w'.tape = w.tape) (h3 : w'.output = w.output) (h4 : w.heap.size ≤ w'.heap.size) (h5 : ∀ i, i < w.heap.size → i ≠ (ρ n).1 → w'.heap[i]? = w.heap[i]?)
    (hc : w'.heap[(ρ n).1]? = some (.cells c ty (0, 0))) (hr : c.size = r') (hcl : cs'.length ≤ r') (hcs : Cells ρ σ.length c 0 cs') : Sim F ρ (σ.set n (.rw ty cs' r')) w' :=
  h.writeB hn hr0 id h1 h2 h3 h4 h5 ⟨hcl, fun _ => ⟨((h.bl n _ hn).2 hr0).1, c, hc, hr, hcs⟩⟩
theorem Sim.allocMap {F : Fr} {ρ : Pl} {σ : List AB} {w : World} (h : Sim F ρ σ w) (P : Program) (k e : TypeId) :
    Sim F (plus ρ σ.length (w.heap.size, 0)) (σ ++ [.mb P k e 0 fun _ => none]) (w.alloc (.map #[] 0)) := by
  have hold : ∀ i, i < w.heap.size → (w.alloc (.map #[] 0)).heap[i]? = w.heap[i]? := fun i hi => heap_alloc_old w _ i hi
  refine (h.beside (w' := w.alloc (.map #[] 0)) rfl rfl rfl (by simp) hold).adoptB _ (w.heap.size, 0) ⟨rfl, .map [], World.ownsMap_made w P k _, fun x => ⟨rfl, rfl⟩⟩ (fun _ => trivial) fun _ => ⟨?_, ?_⟩
  · cases hz : F.Z w.heap.size with
    | none => rfl
    | some o => have := (Array.getElem?_eq_some_iff.1 (h.fr _ _ hz)).1; omega
  · intro m B hB hd
    have := h.lt hB hd
    simp only; omega
end Go.Abs
