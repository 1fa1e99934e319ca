/- Names changed, blocks forgotten; a callee's contract over its own small heap, used in a caller's heap. -/
import Derived.Test.YtgnlibnnpipbhaaAbsI
namespace Go.Abs
set_option linter.unusedVariables false
set_option linter.unusedSimpArgs false

def rnp (ν : Nat → Nat × Nat) (x : Nat × Nat) : Nat × Nat := ((ν x.1).1, (ν x.1).2 + x.2)

def renC (ν : Nat → Nat × Nat) : AV → AV
  | .p n o => .p (ν n).1 ((ν n).2 + o)
  | .sl n o l c => .sl (ν n).1 ((ν n).2 + o) l c
  | .fn f a c => .fn f (a.map (rnp ν)) (c.map (rnp ν))
  | .mp n => .mp (ν n).1
  | x => x

def ren1 (ν : Nat → Nat × Nat) : AV → AV
  | .agg l => .agg (l.map (renC ν))
  | x => renC ν x

def ren (ν : Nat → Nat × Nat) : AV → AV
  | .tup l => .tup (l.map (ren1 ν))
  | x => ren1 ν x

def renB (ν : Nat → Nat × Nat) : AB → AB
  | .dead => .dead
  | .ro cs => .ro (cs.map (renC ν))
  | .rw ty cs r => .rw ty (cs.map (renC ν)) r
  | .mb P k e n f => .mb P k e n f

def below (N : Nat) : AV → Bool
  | .p n _ | .sl n _ _ _ | .mp n => decide (n < N)
  | .fn _ a c => a.all (fun x => decide (x.1 < N)) && c.all (fun x => decide (x.1 < N))
  | _ => true

def below1 (N : Nat) : AV → Bool
  | .agg l => l.all (below N)
  | x => below N x

def belowT (N : Nat) : AV → Bool
  | .tup l => l.all (below1 N)
  | x => below1 N x

def pl (ρ : Pl) (x : Nat × Nat) : Nat × Nat := ((ρ x.1).1, (ρ x.1).2 + x.2)

theorem ad_pl (ρ : Pl) (ν : Nat → Nat × Nat) (n o : Nat) : ad ρ (ν n).1 ((ν n).2 + o) = ad (fun n => pl ρ (ν n)) n o := by
  simp [ad, pl, Nat.add_assoc]

/-- Back from the new names to the elder ones. -/
theorem MC.back {ρ ρ0 : Pl} {N N0 : Nat} {ν : Nat → Nat × Nat} {x : AV} {v : Value} (h : MC ρ N (renC ν x) v) (hb : below N0 x = true) (he : ∀ n, n < N0 → ρ0 n = pl ρ (ν n)) : MC ρ0 N0 x v := by
  have hp : ∀ n o, n < N0 → ad ρ (ν n).1 ((ν n).2 + o) = ad ρ0 n o := fun n o hn => by rw [ad_pl]; simp only [ad, he n hn]
  have hps : ∀ l : List (Nat × Nat), (∀ x ∈ l, x.1 < N0) → ptrs ρ (l.map (rnp ν)) = ptrs ρ0 l := by
    intro l hl
    simp only [ptrs, List.map_map]
    apply List.map_congr_left
    intro x hx
    simp only [Function.comp, rnp]
    rw [hp _ _ (hl x hx)]
  cases x <;> simp only [renC, MC] at h ⊢ <;> first
    | exact h
    | (simp only [below, decide_eq_true_eq] at hb
       refine ⟨hb, ?_⟩
       first
         | (rw [h.2, hp _ _ hb])
         | (rw [h.2, he _ hb]; rfl)
         | (rw [← hp _ _ hb]; exact h.2))
    | (simp only [below, Bool.and_eq_true, List.all_eq_true, decide_eq_true_eq] at hb
       refine ⟨hb.1, hb.2, ?_⟩
       rw [h.2.2, hps _ hb.1, hps _ hb.2])

/-- On to other names. -/
theorem MC.on {ρ ρ0 : Pl} {N N0 : Nat} {ν : Nat → Nat × Nat} {x : AV} {v : Value} (h : MC ρ0 N0 x v) (he : ∀ n, n < N0 → (ν n).1 < N ∧ ρ0 n = pl ρ (ν n)) : MC ρ N (renC ν x) v := by
  have hp : ∀ n o, n < N0 → ad ρ (ν n).1 ((ν n).2 + o) = ad ρ0 n o := fun n o hn => by rw [ad_pl]; simp only [ad, (he n hn).2]
  have hps : ∀ l : List (Nat × Nat), (∀ x ∈ l, x.1 < N0) → ptrs ρ (l.map (rnp ν)) = ptrs ρ0 l := by
    intro l hl
    simp only [ptrs, List.map_map]
    apply List.map_congr_left
    intro x hx
    simp only [Function.comp, rnp]
    rw [hp _ _ (hl x hx)]
  cases x <;> simp only [renC, MC] at h ⊢ <;> first
    | exact h
    | (refine ⟨(he _ h.1).1, ?_⟩
       first
         | (rw [h.2, hp _ _ h.1])
         | (rw [h.2, (he _ h.1).2]; rfl)
         | (rw [hp _ _ h.1]; exact h.2))
    | (refine ⟨?_, ?_, ?_⟩
       · intro x hx
         obtain ⟨y, hy, rfl⟩ := List.mem_map.1 hx
         exact (he _ (h.1 y hy)).1
       · intro x hx
         obtain ⟨y, hy, rfl⟩ := List.mem_map.1 hx
         exact (he _ (h.2.1 y hy)).1
       · rw [h.2.2, hps _ h.1, hps _ h.2.1])

theorem MCs.back {ρ ρ0 : Pl} {N N0 : Nat} {ν : Nat → Nat × Nat} (he : ∀ n, n < N0 → ρ0 n = pl ρ (ν n)) : ∀ {l : List AV} {vs : List Value}, MCs ρ N (l.map (renC ν)) vs → l.all (below N0) = true → MCs ρ0 N0 l vs
  | [], [], _, _ => trivial
  | x :: l, v :: vs, h, hb => by
    simp only [List.all_cons, Bool.and_eq_true] at hb
    exact ⟨h.1.back hb.1 he, MCs.back he h.2 hb.2⟩
  | [], _ :: _, h, _ => h.elim
  | _ :: _, [], h, _ => h.elim

theorem MCs.on {ρ ρ0 : Pl} {N N0 : Nat} {ν : Nat → Nat × Nat} (he : ∀ n, n < N0 → (ν n).1 < N ∧ ρ0 n = pl ρ (ν n)) : ∀ {l : List AV} {vs : List Value}, MCs ρ0 N0 l vs → MCs ρ N (l.map (renC ν)) vs
  | [], [], _ => trivial
  | x :: l, v :: vs, h => ⟨h.1.on he, MCs.on he h.2⟩
  | [], _ :: _, h => h.elim
  | _ :: _, [], h => h.elim

theorem M1.back {ρ ρ0 : Pl} {N N0 : Nat} {ν : Nat → Nat × Nat} (he : ∀ n, n < N0 → ρ0 n = pl ρ (ν n)) {x : AV} {v : Value} (h : M1 ρ N (ren1 ν x) v) (hb : below1 N0 x = true) : M1 ρ0 N0 x v := by
  cases x
  case agg l => obtain ⟨vs, hv, hl⟩ := h; exact ⟨vs, hv, hl.back he hb⟩
  case tup l => exact h.elim
  all_goals
    (refine M1.ofMC (MC.back (ρ := ρ) (N := N) (ν := ν) ?_ hb he)
     simp only [ren1, renC, M1] at h ⊢
     exact h)

theorem M1.on {ρ ρ0 : Pl} {N N0 : Nat} {ν : Nat → Nat × Nat} (he : ∀ n, n < N0 → (ν n).1 < N ∧ ρ0 n = pl ρ (ν n)) {x : AV} {v : Value} (h : M1 ρ0 N0 x v) : M1 ρ N (ren1 ν x) v := by
  cases x
  case agg l => obtain ⟨vs, hv, hl⟩ := h; exact ⟨vs, hv, hl.on he⟩
  case tup l => exact h.elim
  all_goals
    (simp only [ren1]
     exact M1.ofMC (MC.on (ρ0 := ρ0) (N0 := N0) (by simpa only [M1] using h) he))

theorem M1s.back {ρ ρ0 : Pl} {N N0 : Nat} {ν : Nat → Nat × Nat} (he : ∀ n, n < N0 → ρ0 n = pl ρ (ν n)) : ∀ {l : List AV} {vs : List Value}, M1s ρ N (l.map (ren1 ν)) vs → l.all (below1 N0) = true → M1s ρ0 N0 l vs
  | [], [], _, _ => trivial
  | x :: l, v :: vs, h, hb => by
    simp only [List.all_cons, Bool.and_eq_true] at hb
    exact ⟨h.1.back he hb.1, M1s.back he h.2 hb.2⟩
  | [], _ :: _, h, _ => h.elim
  | _ :: _, [], h, _ => h.elim

theorem M1s.on {ρ ρ0 : Pl} {N N0 : Nat} {ν : Nat → Nat × Nat} (he : ∀ n, n < N0 → (ν n).1 < N ∧ ρ0 n = pl ρ (ν n)) : ∀ {l : List AV} {vs : List Value}, M1s ρ0 N0 l vs → M1s ρ N (l.map (ren1 ν)) vs
  | [], [], _ => trivial
  | x :: l, v :: vs, h => ⟨h.1.on he, M1s.on he h.2⟩
  | [], _ :: _, h => h.elim
  | _ :: _, [], h => h.elim

theorem M.back {ρ ρ0 : Pl} {N N0 : Nat} {ν : Nat → Nat × Nat} (he : ∀ n, n < N0 → ρ0 n = pl ρ (ν n)) {x : AV} {v : Value} (h : M ρ N (ren ν x) v) (hb : belowT N0 x = true) : M ρ0 N0 x v := by
  cases x
  case tup l => obtain ⟨vs, hv, hl⟩ := h; exact ⟨vs, hv, hl.back he hb⟩
  case j => trivial
  all_goals
    (refine M.ofM1 (M1.back (ρ := ρ) (N := N) (ν := ν) he ?_ hb)
     simp only [ren, ren1, renC, M] at h ⊢
     exact h)

theorem M.on {ρ ρ0 : Pl} {N N0 : Nat} {ν : Nat → Nat × Nat} (he : ∀ n, n < N0 → (ν n).1 < N ∧ ρ0 n = pl ρ (ν n)) {x : AV} {v : Value} (h : M ρ0 N0 x v) : M ρ N (ren ν x) v := by
  cases x
  case tup l => obtain ⟨vs, hv, hl⟩ := h; exact ⟨vs, hv, hl.on he⟩
  case j => trivial
  all_goals
    (simp only [ren]
     exact M.ofM1 (M1.on (ρ0 := ρ0) (N0 := N0) he (by simpa only [M] using h)))

/-! ### a heap seen under other names -/
def FitB (ν : Nat → Nat × Nat) (N0 : Nat) (σ : List AB) (m : Nat × Nat) : AB → Prop
  | .dead => True
  | .ro cs => cs.all (below N0) = true ∧ (cs = [] ∨ ∃ cs', cellsOf σ m.1 = some cs' ∧ m.2 + cs.length ≤ cs'.length ∧ cs.map (renC ν) = win cs' m.2 cs.length)
  | .rw ty cs r => cs.all (below N0) = true ∧ m.2 = 0 ∧ σ[m.1]? = some (.rw ty (cs.map (renC ν)) r)
  | .mb .. => False

/-- For a state seen anew: an empty row needs no block. -/
def FitW (ν : Nat → Nat × Nat) (N0 : Nat) (σ : List AB) (m : Nat × Nat) : AB → Prop
  | .dead => True
  | .ro cs => cs.all (below N0) = true ∧ (cs = [] ∨ ∃ cs', cellsOf σ m.1 = some cs' ∧ m.2 + cs.length ≤ cs'.length ∧ cs.map (renC ν) = win cs' m.2 cs.length)
  | .rw ty cs r => (cs = [] ∧ r = 0) ∨ (cs.all (below N0) = true ∧ m.2 = 0 ∧ σ[m.1]? = some (.rw ty (cs.map (renC ν)) r))
  | .mb P k e n f => m.2 = 0 ∧ σ[m.1]? = some (.mb P k e n f)

theorem FitB.w {ν : Nat → Nat × Nat} {N0 : Nat} {σ : List AB} {m : Nat × Nat} {B : AB} (h : FitB ν N0 σ m B) : FitW ν N0 σ m B := by
  cases B with
  | dead => trivial
  | ro cs => exact h
  | rw ty cs r => exact .inr h
  | mb P k e n f => exact h.elim

def isRw : AB → Bool
  | .rw .. => true
  | _ => false

/-- Who may be written: a row, or a map. -/
def isOw : AB → Bool
  | .rw .. => true
  | .mb .. => true
  | _ => false
theorem isW.ow {B : AB} (h : isW B) : isOw B = true := by cases B <;> first | rfl | exact h.elim

def isDead : AB → Bool
  | .dead => true
  | _ => false

/-- All blocks fit; who can be written shares its block with none. -/
def Fits (ν : Nat → Nat × Nat) (σ σ0 : List AB) : Prop :=
  (∀ n B, σ0[n]? = some B → FitB ν σ0.length σ (ν n) B) ∧
  ∀ n B m B', σ0[n]? = some B → isRw B = true → σ0[m]? = some B' → isDead B' = false → m ≠ n → (ν m).1 ≠ (ν n).1

def FitsW (ν : Nat → Nat × Nat) (σ σ0 : List AB) : Prop :=
  (∀ n B, σ0[n]? = some B → FitW ν σ0.length σ (ν n) B) ∧
  ∀ n B m B', σ0[n]? = some B → isOw B = true → σ0[m]? = some B' → isDead B' = false → m ≠ n → (ν m).1 ≠ (ν n).1

theorem FitB.rwo {ν : Nat → Nat × Nat} {N0 : Nat} {σ : List AB} {m : Nat × Nat} {B : AB} (h : FitB ν N0 σ m B) (ho : isOw B = true) : isRw B = true := by cases B <;> first | rfl | exact h.elim | exact ho
theorem Fits.w {ν : Nat → Nat × Nat} {σ σ0 : List AB} (h : Fits ν σ σ0) : FitsW ν σ σ0 := ⟨fun n B hn => (h.1 n B hn).w, fun n B m B' hn ho => h.2 n B m B' hn ((h.1 n B hn).rwo ho)⟩

theorem cellsOf_cases {σ : List AB} {n : Nat} {cs : List AV} (h : cellsOf σ n = some cs) : σ[n]? = some (.ro cs) ∨ ∃ ty r, σ[n]? = some (.rw ty cs r) := by
  unfold cellsOf at h
  split at h
  · cases h; exact .inl (by assumption)
  · cases h; exact .inr ⟨_, _, by assumption⟩
  · cases h

theorem Sim.ren {F : Fr} {ρ : Pl} {σ σ0 : List AB} {w : World} (h : Sim F ρ σ w) {ν : Nat → Nat × Nat} (hf : FitsW ν σ σ0) : Sim F (fun n => pl ρ (ν n)) σ0 w := by
  obtain ⟨hb, hsep⟩ := hf
  refine ⟨h.os, h.tape, h.out, h.sz, h.fr, ?_, ?_⟩
  · intro n B hn
    have hfit := hb n B hn
    cases B with
    | dead => trivial
    | ro cs =>
      intro hne
      obtain ⟨hbel, he | ⟨cs', hc, hle, he⟩⟩ := hfit
      · exact absurd he hne
      obtain ⟨c, T, fr, h1, h2⟩ := cell_of h hc (fun e => hne (by subst e; simp at hle; exact hle.2))
      refine ⟨c, T, fr, h1, ?_⟩
      intro k x hk
      have hw := (h2.sub (ν n).2 cs.length) k (renC ν x) (by
        show (win cs' (ν n).2 cs.length)[k]? = some (renC ν x)
        rw [← he, List.getElem?_map, hk]; rfl)
      obtain ⟨v, hv, hm⟩ := hw
      exact ⟨v, hv, hm.back (List.all_eq_true.1 hbel x (List.mem_of_getElem? hk)) fun _ _ => rfl⟩
    | rw ty cs r =>
      obtain ⟨rfl, rfl⟩ | ⟨hbel, h0, hs⟩ := hfit
      · exact ⟨Nat.le_refl _, fun h => absurd rfl h⟩
      obtain ⟨hlr, hblk⟩ := h.bl _ _ hs
      refine ⟨by simpa using hlr, fun hr => ?_⟩
      obtain ⟨h1, c, h2, h3, h4⟩ := hblk hr
      refine ⟨by simp [pl, h1, h0], c, h2, h3, ?_⟩
      intro k x hk
      obtain ⟨v, hv, hm⟩ := h4 k (renC ν x) (by rw [List.getElem?_map, hk]; rfl)
      exact ⟨v, hv, hm.back (List.all_eq_true.1 hbel x (List.mem_of_getElem? hk)) fun _ _ => rfl⟩
    | mb P k e q f =>
      obtain ⟨h0, hs⟩ := hfit
      obtain ⟨h1, h2⟩ := h.bl _ _ hs
      exact ⟨by simp [pl, h1, h0], h2⟩
  · intro n B0 hn hr
    have key : ∃ C, σ[(ν n).1]? = some C ∧ isW C := by
      have hfit := hb n _ hn
      cases B0 with
      | dead => exact hr.elim
      | ro cs => exact hr.elim
      | rw ty cs r =>
        obtain ⟨_, e⟩ | ⟨hbel, h0, hs⟩ := hfit
        · exact absurd e hr
        · exact ⟨_, hs, hr⟩
      | mb P k e q f => exact ⟨_, hfit.2, trivial⟩
    obtain ⟨C, hs, hC⟩ := key
    obtain ⟨hz, ho⟩ := h.own _ _ hs hC
    refine ⟨hz, fun m B hm hB hd => ?_⟩
    have hne := hsep n _ m B hn hr.ow hB (by cases B <;> first | rfl | exact hd.elim) hm
    have hmf := hb m B hB
    cases B with
    | dead => exact hd.elim
    | ro cs' =>
      obtain ⟨_, he | ⟨cs2, hc, hle, _⟩⟩ := hmf
      · exact absurd he hd
      have hcne : cs2 ≠ [] := fun e => hd (by subst e; simp at hle; exact hle.2)
      rcases cellsOf_cases hc with h3 | ⟨ty3, r3, h3⟩
      · exact ho _ _ hne h3 hcne
      · refine ho _ _ hne h3 fun e => hcne ?_
        have := (h.bl _ _ h3).1
        exact List.eq_nil_of_length_eq_zero (by omega)
    | rw ty' cs' r' =>
      obtain ⟨_, e⟩ | hmf := hmf
      · exact absurd e hd
      · exact ho _ _ hne hmf.2.2 hd
    | mb P k e q f => exact ho _ _ hne hmf.2 trivial

theorem isW_rw {ν : Nat → Nat × Nat} {N0 : Nat} {σ : List AB} {m : Nat × Nat} {B : AB} (h : isW B) (hf : FitB ν N0 σ m B) : ∃ ty cs r, B = .rw ty cs r ∧ r ≠ 0 := by
  cases B with
  | dead => exact h.elim
  | ro cs => exact h.elim
  | rw ty cs r => exact ⟨ty, cs, r, rfl, h⟩
  | mb P k e q f => exact hf.elim

/-- The frame of a callee: all that is there but the blocks that it may write. -/
noncomputable def subFr (ρ0 : Pl) (σ0 : List AB) (w : World) : Fr where
  Z := fun b => open Classical in if ∃ n B, σ0[n]? = some B ∧ isW B ∧ (ρ0 n).1 = b then none else w.heap[b]?
  os := w.os
  tape := w.tape
  out := w.output
  sz := w.heap.size

theorem Sim.refr {F : Fr} {ρ0 : Pl} {σ0 : List AB} {w : World} (h : Sim F ρ0 σ0 w) : Sim (subFr ρ0 σ0 w) ρ0 σ0 w := by
  refine ⟨rfl, rfl, rfl, Nat.le_refl _, ?_, h.bl, ?_⟩
  · intro b o hb
    simp only [subFr] at hb
    split at hb
    · cases hb
    · exact hb
  · intro n B0 hn hr
    refine ⟨?_, (h.own n B0 hn hr).2⟩
    simp only [subFr]
    exact if_pos ⟨n, _, hn, hr, rfl⟩

theorem subFr_kept {ρ0 : Pl} {σ0 : List AB} {w w' : World} {ρ' : Pl} {σ' : List AB} (h : Sim (subFr ρ0 σ0 w) ρ' σ' w') {b : Nat} (hb : ∀ n B, σ0[n]? = some B → isW B → (ρ0 n).1 ≠ b) {o : Obj} (ho : w.heap[b]? = some o) : w'.heap[b]? = some o := by
  refine h.fr b o ?_
  simp only [subFr]
  rw [if_neg (fun ⟨n, B, h1, h2, h3⟩ => hb n B h1 h2 h3)]
  exact ho

/-- A value seen as another: under other names; a nil slice as an empty one. -/
def sees1 (ν : Nat → Nat × Nat) (x x1 : AV) : Prop := x = ren1 ν x1 ∨ (x = .sn ∧ ∃ n o, x1 = .sl n o 0 0)

def seesL (ν : Nat → Nat × Nat) : List AV → List AV → Prop
  | [], [] => True
  | x :: l, x1 :: r => sees1 ν x x1 ∧ seesL ν l r
  | _, _ => False

def sees (ν : Nat → Nat × Nat) (x x1 : AV) : Prop := x1 = .j ∨ x = ren ν x1 ∨ (x = .sn ∧ ∃ n o, x1 = .sl n o 0 0) ∨ ∃ l r, x = .tup l ∧ x1 = .tup r ∧ seesL ν l r

theorem sees1.m1 {ρ ρ0 : Pl} {N N0 : Nat} {ν : Nat → Nat × Nat} (he : ∀ n, n < N0 → ρ0 n = pl ρ (ν n)) {x x1 : AV} {v : Value} (hs : sees1 ν x x1) (h : M1 ρ N x v) (hb : below1 N0 x1 = true) : M1 ρ0 N0 x1 v := by
  rcases hs with rfl | ⟨rfl, n, o, rfl⟩
  · exact M1.back he h hb
  · simp only [M1, MC] at h ⊢
    exact ⟨by simpa [below1, below] using hb, Nat.le_refl _, .inr ⟨trivial, trivial, h⟩⟩

theorem seesL.m1s {ρ ρ0 : Pl} {N N0 : Nat} {ν : Nat → Nat × Nat} (he : ∀ n, n < N0 → ρ0 n = pl ρ (ν n)) : ∀ {l r : List AV} {vs : List Value}, seesL ν l r → M1s ρ N l vs → r.all (below1 N0) = true → M1s ρ0 N0 r vs
  | [], [], [], _, _, _ => trivial
  | x :: l, x1 :: r, v :: vs, hs, h, hb => by
    simp only [List.all_cons, Bool.and_eq_true] at hb
    exact ⟨hs.1.m1 he h.1 hb.1, seesL.m1s he hs.2 h.2 hb.2⟩
  | [], [], _ :: _, _, h, _ => h.elim
  | [], _ :: _, _, h, _, _ => h.elim
  | _ :: _, [], _, h, _, _ => h.elim
  | _ :: _, _ :: _, [], _, h, _ => h.elim

theorem sees.m {ρ ρ0 : Pl} {N N0 : Nat} {ν : Nat → Nat × Nat} (he : ∀ n, n < N0 → ρ0 n = pl ρ (ν n)) {x x1 : AV} {v : Value} (hs : sees ν x x1) (h : M ρ N x v) (hb : belowT N0 x1 = true) : M ρ0 N0 x1 v := by
  rcases hs with rfl | rfl | hs | ⟨l, r, rfl, rfl, hs⟩
  · trivial
  · exact M.back he h hb
  · obtain ⟨rfl, n, o, rfl⟩ := hs
    simp only [M, M1, MC] at h ⊢
    exact ⟨by simpa [belowT, below1, below] using hb, Nat.le_refl _, .inr ⟨trivial, trivial, h⟩⟩
  · obtain ⟨vs, hv, hl⟩ := h.tupv
    exact ⟨vs, hv, hs.m1s he hl hb⟩

section
variable {P : Program} {f : FuncId} {args0 : List AV} {σ0 σ : List AB} {K0 K : AV → List AB → Prop} {ν : Nat → Nat × Nat}

/-- A call that leaves its heap as it was: a callee's contract over its own heap serves the caller's. -/
theorem call_same (h : CallWp P f args0 σ0 fun x σ' => K0 x σ' ∧ σ' = σ0) (hf : Fits ν σ σ0) (hν : ∀ n, n < σ0.length → (ν n).1 < σ.length) (hb : args0.all (below1 σ0.length) = true) {args : List AV} (ha : seesL ν args args0) (hk : ∀ x, K0 x σ0 → K (ren ν x) σ) :
    CallWp P f args σ K := by
  refine ⟨h.1, fun F ρ w vs hs hv => ?_⟩
  have hs0 := (hs.ren hf.w).refr
  refine (h.2 _ _ w vs hs0 (ha.m1s (ρ := ρ) (N := σ.length) (fun _ _ => rfl) hv hb)).mono ?_
  rintro e w' ⟨v, x, σ', ρ', he, hs', hN, hρ, hm, hk0, rfl⟩
  refine ⟨v, ren ν x, σ, ρ, he, ?_, Nat.le_refl _, fun _ _ => rfl, hm.on fun n hn => ⟨hν n hn, hρ n hn⟩, hk x hk0⟩
  have hpass : ∀ n B k B0, σ[n]? = some B → live B → σ'[k]? = some B0 → isW B0 → (pl ρ (ν k)).1 = (ρ n).1 → n = (ν k).1 := by
    intro n B k B0 hn hd hk hW heq
    obtain ⟨ty, cs, r, rfl, hr⟩ := isW_rw hW (hf.1 k _ hk)
    obtain ⟨_, h0, hsk⟩ := hf.1 k _ hk
    refine Classical.byContradiction fun hne => ?_
    exact (hs.own _ _ hsk hr).2 n B hne hn hd heq.symm
  refine ⟨hs'.os.trans hs.os, hs'.tape.trans hs.tape, hs'.out.trans hs.out, Nat.le_trans hs.sz hs'.sz, ?_, ?_, hs.own⟩
  · intro b o hb'
    refine subFr_kept hs' (fun n B hn hW heq => ?_) (hs.fr b o hb')
    obtain ⟨ty, cs, r, rfl, hr⟩ := isW_rw hW (hf.1 n _ hn)
    obtain ⟨_, h0, hsk⟩ := hf.1 n _ hn
    have := (hs.own _ _ hsk hr).1
    rw [show (ρ (ν n).1).1 = b from heq] at this
    rw [this] at hb'
    cases hb'
  · intro n B hn
    by_cases hd : live B
    · by_cases hex : ∃ k B0, σ'[k]? = some B0 ∧ isW B0 ∧ (pl ρ (ν k)).1 = (ρ n).1
      · obtain ⟨k, B0, hk', hW, heq⟩ := hex
        have hnk := hpass n B k B0 hn hd hk' hW heq
        obtain ⟨ty, cs, r, rfl, hr⟩ := isW_rw hW (hf.1 k _ hk')
        obtain ⟨_, h0, hsk⟩ := hf.1 k _ hk'
        rw [← hnk] at hsk
        rw [hn] at hsk
        cases hsk
        obtain ⟨hlr, hblk⟩ := hs'.bl k _ hk'
        obtain ⟨h1, c, h2, h3, h4⟩ := hblk hr
        have hkl := (List.getElem?_eq_some_iff.1 hk').1
        rw [hρ k hkl] at h2
        refine ⟨by simpa using hlr, fun _ => ⟨((hs.bl n _ hn).2 hr).1, c, ?_, h3, ?_⟩⟩
        · simp only [pl, ← hnk] at h2; exact h2
        · intro j y hj
          rw [List.getElem?_map] at hj
          cases hcj : cs[j]? with
          | none => rw [hcj] at hj; cases hj
          | some y0 =>
            rw [hcj] at hj
            simp only [Option.map_some, Option.some.injEq] at hj
            subst hj
            obtain ⟨u, hu, hmu⟩ := h4 j y0 hcj
            exact ⟨u, hu, hmu.on fun n hn => ⟨hν n hn, hρ n hn⟩⟩
      · refine (hs.bl n B hn).heap fun _ => ?_
        have hlt := hs.lt hn hd
        rw [Array.getElem?_eq_getElem hlt]
        exact subFr_kept hs' (fun k B0 hk' hW heq => hex ⟨k, B0, hk', hW, heq⟩) (Array.getElem?_eq_getElem hlt)
    · exact (hs.bl n B hn).heap fun h => absurd h hd
end

/-! ### seeing a state under other names -/
def nat2 (ν : List Nat) (n : Nat) : Nat × Nat := (ν.getD n 0, 0)

def StFits (ν : Nat → Nat × Nat) (s s1 : St) : Prop :=
  (∀ p ∈ s1.T, belowT s1.σ.length p.2 = true ∧ sees ν (look s.T p.1) p.2) ∧ FitsW ν s.σ s1.σ

theorem look_mem {T : List (Nat × AV)} {t : Nat} : (∃ p ∈ T, p.1 = t ∧ look T t = p.2) ∨ look T t = .j := by
  induction T with
  | nil => exact .inr rfl
  | cons p T ih =>
    obtain ⟨d, v⟩ := p
    by_cases e : d = t
    · exact .inl ⟨(d, v), by simp, e, by simp [look, e]⟩
    · rcases ih with ⟨q, hq, h1, h2⟩ | h
      · exact .inl ⟨q, by simp [hq], h1, by simp [look, e, h2]⟩
      · exact .inr (by simp [look, e, h])

theorem Wk.of {L0 nt : Nat} {s s1 : St} (ν : List Nat) (hL : L0 ≤ s1.σ.length) (hid : ∀ n, n < L0 → ν.getD n 0 = n) (h : StFits (nat2 ν) s s1) : Wk L0 nt s s1 := by
  intro F ρ a w _ hs
  refine ⟨fun n => pl ρ (nat2 ν n), fun n hn => by simp only [pl, nat2, hid n hn]; rfl, hL, hs.1.ren h.2, hs.2.1, hs.2.2.1, fun t => ?_⟩
  rcases look_mem (T := s1.T) (t := t) with ⟨p, hp, h1, h2⟩ | h2
  · obtain ⟨hb, hse⟩ := h.1 p hp
    rw [h2]
    rw [h1] at hse
    exact hse.m (ρ := ρ) (N := s.σ.length) (fun _ _ => rfl) (hs.2.2.2 t) hb
  · rw [h2]; trivial

theorem Wk.refl (L0 nt : Nat) (s : St) : Wk L0 nt s s := fun F ρ a w hL hs => ⟨ρ, fun _ _ => rfl, hL, hs⟩

theorem Fin.of {L0 : Nat} {σ σ1 : List AB} {v v1 : AV} {K : AV → List AB → Prop} (ν : List Nat) (hL : L0 ≤ σ1.length) (hid : ∀ n, n < L0 → ν.getD n 0 = n) (hv : sees (nat2 ν) v v1) (hb : belowT σ1.length v1 = true) (hf : FitsW (nat2 ν) σ σ1) (hk : K v1 σ1) : Fin L0 σ v K := by
  intro F ρ w cv _ hs hm
  exact ⟨σ1, v1, fun n => pl ρ (nat2 ν n), fun n hn => by simp only [pl, nat2, hid n hn]; rfl, hL, hs.ren hf, hv.m (ρ := ρ) (N := σ.length) (fun _ _ => rfl) hm hb, hk⟩

theorem Fin.plain {L0 : Nat} {σ : List AB} {v : AV} {K : AV → List AB → Prop} (hk : K v σ) : Fin L0 σ v K :=
  fun F ρ w cv hL hs hm => ⟨σ, v, ρ, fun _ _ => rfl, hL, hs, hm, hk⟩

/-! ### a callee that writes, or hands back new blocks -/
/-- The caller's names of the callee's: the elder ones by ν, the new ones behind the caller's. -/
def out (ν : Nat → Nat × Nat) (N0 N : Nat) (n : Nat) : Nat × Nat := if n < N0 then ν n else (N + (n - N0), 0)

/-- What the callee has made of the blocks that it may write. -/
def updL (g : Nat → Nat × Nat) (ν : Nat → Nat × Nat) : Nat → List AB → List AB → List AB → List AB
  | k, .rw .. :: r, B' :: r', σ => updL g ν (k + 1) r r' (σ.set (ν k).1 (renB g B'))
  | k, _ :: r, _ :: r', σ => updL g ν (k + 1) r r' σ
  | _, _, _, σ => σ

theorem updL_len (g ν : Nat → Nat × Nat) : ∀ (r r' : List AB) (k : Nat) (σ : List AB), (updL g ν k r r' σ).length = σ.length
  | [], _, _, _ => by simp [updL]
  | B :: r, [], _, _ => by cases B <;> simp [updL]
  | B :: r, B' :: r', k, σ => by
    cases B <;> simp only [updL] <;> rw [updL_len g ν r r'] <;> simp

/-- A block that no written name bears stays. -/
theorem updL_old (g ν : Nat → Nat × Nat) : ∀ (r r' : List AB) (k : Nat) (σ : List AB) (m : Nat), (∀ j B, r[j]? = some B → isRw B = true → (ν (k + j)).1 ≠ m) → (updL g ν k r r' σ)[m]? = σ[m]?
  | [], _, _, _, _, _ => by simp [updL]
  | B :: r, [], _, _, _, _ => by cases B <;> simp [updL]
  | B :: r, B' :: r', k, σ, m, h => by
    have h' : ∀ j B, r[j]? = some B → isRw B = true → (ν (k + 1 + j)).1 ≠ m := fun j B hj hB => by
      have := h (j + 1) B (by simpa using hj) hB
      rwa [show k + 1 + j = k + (j + 1) from by omega]
    cases B with
    | rw ty cs q =>
      simp only [updL]
      rw [updL_old g ν r r' (k + 1) _ m h', List.getElem?_set, if_neg (by have := h 0 _ rfl rfl; simpa using this)]
    | dead => simp only [updL]; exact updL_old g ν r r' (k + 1) _ m h'
    | ro cs => simp only [updL]; exact updL_old g ν r r' (k + 1) _ m h'
    | mb P q e n f => simp only [updL]; exact updL_old g ν r r' (k + 1) _ m h'

theorem updL_new (g ν : Nat → Nat × Nat) : ∀ (r r' : List AB) (k : Nat) (σ : List AB) (j : Nat) (B B' : AB), r[j]? = some B → isRw B = true → r'[j]? = some B' → (ν (k + j)).1 < σ.length →
    (∀ i C, r[i]? = some C → isRw C = true → i ≠ j → (ν (k + i)).1 ≠ (ν (k + j)).1) → (updL g ν k r r' σ)[(ν (k + j)).1]? = some (renB g B')
  | [], _, _, _, j, _, _, h, _, _, _, _ => by simp at h
  | _ :: _, [], _, _, j, _, _, _, _, h, _, _ => by simp at h
  | A :: r, A' :: r', k, σ, 0, B, B', hB, hrw, hB', hlt, hsep => by
    simp at hB hB'
    subst hB hB'
    cases A with
    | dead => cases hrw
    | ro cs => cases hrw
    | mb P q e n f => cases hrw
    | rw ty cs q =>
      simp only [updL, Nat.add_zero]
      rw [updL_old g ν r r' (k + 1) _ _ (fun i C hi hC => by
        have := hsep (i + 1) C (by simpa using hi) hC (by omega)
        rw [show k + 1 + i = k + (i + 1) from by omega]
        simpa using this)]
      rw [List.getElem?_set, if_pos rfl, if_pos (by simpa using hlt)]
  | A :: r, A' :: r', k, σ, j + 1, B, B', hB, hrw, hB', hlt, hsep => by
    simp at hB hB'
    have e : k + (j + 1) = k + 1 + j := by omega
    have hs' : ∀ i C, r[i]? = some C → isRw C = true → i ≠ j → (ν (k + 1 + i)).1 ≠ (ν (k + 1 + j)).1 := fun i C hi hC hij => by
      have := hsep (i + 1) C (by simpa using hi) hC (by omega)
      rwa [show k + (i + 1) = k + 1 + i from by omega, e] at this
    rw [e] at hlt ⊢
    cases A with
    | rw ty cs q => simp only [updL]; exact updL_new g ν r r' (k + 1) _ j B B' hB hrw hB' (by simpa using hlt) hs'
    | dead => simp only [updL]; exact updL_new g ν r r' (k + 1) _ j B B' hB hrw hB' hlt hs'
    | ro cs => simp only [updL]; exact updL_new g ν r r' (k + 1) _ j B B' hB hrw hB' hlt hs'
    | mb P q e n f => simp only [updL]; exact updL_new g ν r r' (k + 1) _ j B B' hB hrw hB' hlt hs'

/-- None that a callee hands back. -/
def isRo : AB → Bool
  | .ro _ => true
  | .mb .. => true
  | _ => false

/-- The caller's heap behind the call. -/
def plug (ν : Nat → Nat × Nat) (σ σ0 σ' : List AB) : List AB :=
  updL (out ν σ0.length σ.length) ν 0 σ0 σ' σ ++ (σ'.drop σ0.length).map (renB (out ν σ0.length σ.length))

theorem Holds.on {ρ ρ0 : Pl} {N N0 : Nat} {w : World} {ν : Nat → Nat × Nat} {a : Nat × Nat} {B : AB} (h : Holds ρ0 N0 w a B) (he : ∀ n, n < N0 → (ν n).1 < N ∧ ρ0 n = pl ρ (ν n)) : Holds ρ N w a (renB ν B) := by
  have hc : ∀ {c : Array Value} {o : Nat} {cs : List AV}, Cells ρ0 N0 c o cs → Cells ρ N c o (cs.map (renC ν)) := by
    intro c o cs h k x hk
    rw [List.getElem?_map] at hk
    cases hck : cs[k]? with
    | none => rw [hck] at hk; cases hk
    | some y =>
      rw [hck] at hk
      simp only [Option.map_some, Option.some.injEq] at hk
      subst hk
      obtain ⟨v, hv, hm⟩ := h k y hck
      exact ⟨v, hv, hm.on he⟩
  cases B with
  | dead => trivial
  | ro cs =>
    intro hne
    obtain ⟨c, T, fr, h1, h2⟩ := h (fun e => hne (by rw [e]; rfl))
    exact ⟨c, T, fr, h1, hc h2⟩
  | rw ty cs r =>
    refine ⟨by simpa using h.1, fun hr => ?_⟩
    obtain ⟨h0, c, h1, h2, h3⟩ := h.2 hr
    exact ⟨h0, c, h1, h2, hc h3⟩
  | mb P k e n f => exact h

section
variable {P : Program} {f : FuncId} {args0 : List AV} {σ0 σ : List AB} {K0 K : AV → List AB → Prop} {ν : Nat → Nat × Nat}

theorem call_frame (h : CallWp P f args0 σ0 K0) (hf : Fits ν σ σ0) (hν : ∀ n, n < σ0.length → (ν n).1 < σ.length) (hb : args0.all (below1 σ0.length) = true) {args : List AV} (ha : seesL ν args args0)
    (hk : ∀ x σ', σ0.length ≤ σ'.length → K0 x σ' → (∀ n B, σ'[n]? = some B → (n < σ0.length → ∃ B0, σ0[n]? = some B0 ∧ isRw B0 = true) → isRo B = false) ∧ K (ren (out ν σ0.length σ.length) x) (plug ν σ σ0 σ')) :
    CallWp P f args σ K := by
  refine ⟨h.1, fun F ρ w vs hs hv => ?_⟩
  have hs0 := (hs.ren hf.w).refr
  refine (h.2 _ _ w vs hs0 (ha.m1s (ρ := ρ) (N := σ.length) (fun _ _ => rfl) hv hb)).mono ?_
  rintro e w' ⟨v, x, σ', ρ', he, hs', hN, hρ, hm, hk0⟩
  obtain ⟨hro, hK⟩ := hk x σ' hN hk0
  generalize hg : out ν σ0.length σ.length = g at hK
  -- the caller's places
  let ρ2 : Pl := fun m => if m < σ.length then ρ m else ρ' (σ0.length + (m - σ.length))
  have hρ2o : ∀ m, m < σ.length → ρ2 m = ρ m := fun m hm => by simp only [ρ2]; exact if_pos hm
  have hρ2n : ∀ m, σ.length ≤ m → ρ2 m = ρ' (σ0.length + (m - σ.length)) := fun m hm => by simp only [ρ2]; exact if_neg (by omega)
  have hlen : (plug ν σ σ0 σ').length = σ.length + (σ'.length - σ0.length) := by simp [plug, updL_len]
  have hgo : ∀ n, n < σ0.length → g n = ν n := fun n hn => by rw [← hg]; simp [out, hn]
  have hgn : ∀ n, σ0.length ≤ n → g n = (σ.length + (n - σ0.length), 0) := fun n hn => by rw [← hg]; simp [out, show ¬ n < σ0.length by omega]
  have hon : ∀ n, n < σ'.length → (g n).1 < (plug ν σ σ0 σ').length ∧ ρ' n = pl ρ2 (g n) := by
    intro n hn
    rw [hlen]
    by_cases h1 : n < σ0.length
    · rw [hgo n h1, hρ n h1]
      have := hν n h1
      refine ⟨by omega, ?_⟩
      simp only [pl, hρ2o _ this]
    · rw [hgn n (by omega)]
      refine ⟨by simp only; omega, ?_⟩
      simp only [pl, hρ2n _ (Nat.le_add_right _ _)]
      rw [show σ0.length + (σ.length + (n - σ0.length) - σ.length) = n from by omega]
      rfl
  -- who of the caller's is written
  have hsep : ∀ k B j C, σ0[k]? = some B → isRw B = true → σ0[j]? = some C → isRw C = true → j ≠ k → (ν j).1 ≠ (ν k).1 := fun k B j C hk hB hj hC hjk => hf.2 k B j C hk hB hj (by cases C <;> first | rfl | cases hC) hjk
  -- what stands in the caller's heap
  have get : ∀ m B, (plug ν σ σ0 σ')[m]? = some B →
      (∃ k B', k < σ'.length ∧ σ'[k]? = some B' ∧ B = renB g B' ∧ ρ' k = ρ2 m ∧ isRo B' = false ∧ (g k).1 = m) ∨
      (m < σ.length ∧ σ[m]? = some B ∧ ρ2 m = ρ m ∧ ∀ k C, σ0[k]? = some C → isRw C = true → (ν k).1 ≠ m) := by
    intro m B hB
    by_cases hml : m < σ.length
    · rw [plug, List.getElem?_append_left (by rw [updL_len]; exact hml), hg] at hB
      by_cases hw : ∃ k C, σ0[k]? = some C ∧ isRw C = true ∧ (ν k).1 = m
      · obtain ⟨k, C, hk, hC, hkm⟩ := hw
        have hkl := (List.getElem?_eq_some_iff.1 hk).1
        have hk' : σ'[k]? = some σ'[k] := List.getElem?_eq_getElem (by omega)
        have hup := updL_new g ν σ0 σ' 0 σ k C σ'[k] hk hC hk' (by rw [Nat.zero_add, hkm]; exact hml) (fun i D hi hD hik => by
          rw [Nat.zero_add, Nat.zero_add]; exact hsep k C i D hk hC hi hD hik)
        rw [Nat.zero_add, hkm] at hup
        rw [hup] at hB
        have hν0 : (ν k).2 = 0 := by
          cases C with
          | dead => cases hC
          | ro cs => cases hC
          | rw ty cs r => exact (hf.1 k _ hk).2.1
          | mb P q e n f => cases hC
        have e1 : ρ2 m = pl ρ2 (g k) := by rw [hgo k hkl]; simp only [pl, hkm, hν0, Nat.add_zero]
        exact .inl ⟨k, σ'[k], by omega, hk', by simpa using hB.symm, (hon k (by omega)).2.trans e1.symm, hro k _ hk' (fun _ => ⟨C, hk, hC⟩), by rw [hgo k hkl]; exact hkm⟩
      · rw [updL_old g ν σ0 σ' 0 σ m (fun j C hj hC => by rw [Nat.zero_add]; exact fun e => hw ⟨j, C, hj, hC, e⟩)] at hB
        exact .inr ⟨hml, hB, hρ2o m hml, fun k C hk hC e => hw ⟨k, C, hk, hC, e⟩⟩
    · have hmt := (List.getElem?_eq_some_iff.1 hB).1
      rw [hlen] at hmt
      rw [plug, List.getElem?_append_right (by rw [updL_len]; omega), updL_len, List.getElem?_map, List.getElem?_drop, hg] at hB
      have hk' : σ'[σ0.length + (m - σ.length)]? = some (σ'[σ0.length + (m - σ.length)]'(by omega)) := List.getElem?_eq_getElem (by omega)
      rw [hk'] at hB
      simp only [Option.map_some, Option.some.injEq] at hB
      have e0 : g (σ0.length + (m - σ.length)) = (m, 0) := by rw [hgn _ (Nat.le_add_right _ _)]; congr 1; omega
      exact .inl ⟨_, _, by omega, hk', hB.symm, (hρ2n m (by omega)).symm, hro _ _ hk' (fun h => by omega), by rw [e0]⟩
  -- blocks of the frame are none that the callee may have written
  have wr : ∀ k B, σ0[k]? = some B → isW B → isRw B = true ∧ ∃ ty cs r, σ[(ν k).1]? = some (.rw ty cs r) ∧ r ≠ 0 := by
    intro k B hk hB
    obtain ⟨ty, cs, r, rfl, hr⟩ := isW_rw hB (hf.1 k _ hk)
    exact ⟨rfl, _, _, _, (hf.1 k _ hk).2.2, hr⟩
  have hz : ∀ k B, σ0[k]? = some B → isW B → F.Z (pl ρ (ν k)).1 = none := by
    intro k B hk hB
    obtain ⟨_, ty, cs, r, hst, hr⟩ := wr k B hk hB
    exact (hs.own _ _ hst hr).1
  have hzn : ∀ b, (subFr (fun n => pl ρ (ν n)) σ0 w).Z b = none → F.Z b = none := by
    intro b hb
    cases hzb : F.Z b with
    | none => rfl
    | some o =>
      simp only [subFr] at hb
      split at hb
      · rename_i hex
        obtain ⟨k, B, h1, h2, h3⟩ := hex
        have := hz k B h1 h2
        rw [h3] at this
        rw [this] at hzb
        cases hzb
      · rw [hs.fr b o hzb] at hb; cases hb
  have stays : ∀ m B, σ[m]? = some B → live B → (∀ k C, σ0[k]? = some C → isRw C = true → (ν k).1 ≠ m) → ∀ k C, σ0[k]? = some C → isW C → (pl ρ (ν k)).1 ≠ (ρ m).1 := by
    intro m B hm hd hnw k C hk hC heq
    obtain ⟨hrw, ty, cs, r, hst, hr⟩ := wr k C hk hC
    exact (hs.own _ _ hst hr).2 m B (fun e => hnw k C hk hrw e.symm) hm hd heq.symm
  have liveB : ∀ B, isRo B = false → live (renB g B) → ∃ ty cs r, B = .rw ty cs r ∧ r ≠ 0 := by
    intro B h1 h2
    cases B with
    | dead => exact h2.elim
    | ro cs => cases h1
    | mb P k e n f => cases h1
    | rw ty cs r => exact ⟨ty, cs, r, rfl, h2⟩
  refine ⟨v, ren g x, plug ν σ σ0 σ', ρ2, he, ?_, by rw [hlen]; omega, fun n hn => hρ2o n hn, hm.on hon, hK⟩
  refine ⟨hs'.os.trans hs.os, hs'.tape.trans hs.tape, hs'.out.trans hs.out, Nat.le_trans hs.sz hs'.sz, ?_, ?_, ?_⟩
  · intro b o hb'
    exact subFr_kept hs' (fun n B hn hW heq => by
      have := hz n B hn hW
      rw [show (pl ρ (ν n)).1 = b from heq] at this
      rw [this] at hb'; cases hb') (hs.fr b o hb')
  · intro m B hB
    rcases get m B hB with ⟨k, B', hkl, hk', rfl, hρk, _, _⟩ | ⟨hml, hB', hρm, hnw⟩
    · have := (hs'.bl k B' hk').on (ν := g) (ρ := ρ2) (N := (plug ν σ σ0 σ').length) hon
      rwa [hρk] at this
    · rw [hρm]
      refine ((hs.bl m B hB').ext (N' := (plug ν σ σ0 σ').length) (ρ' := ρ2) (by rw [hlen]; omega) (fun n hn => hρ2o n hn)).heap fun hd => ?_
      have hlt := hs.lt hB' hd
      rw [Array.getElem?_eq_getElem hlt]
      exact subFr_kept hs' (stays m B hB' hd hnw) (Array.getElem?_eq_getElem hlt)
  · intro m B0 hB hr
    rcases get m _ hB with ⟨k, B', hkl, hk', hren, hρk, hnro, hgk⟩ | ⟨hml, hB', hρm, hnw⟩
    · obtain ⟨ty', cs', r', rfl, hr'⟩ := liveB B' hnro (by rw [← hren]; exact hr.live)
      obtain ⟨hz1, ho1⟩ := hs'.own k _ hk' hr'
      rw [hρk] at hz1 ho1
      refine ⟨hzn _ hz1, fun m2 B2 hne hB2 hd2 => ?_⟩
      rcases get m2 B2 hB2 with ⟨k2, B2', hkl2, hk2', hren2, hρk2, hnro2, hgk2⟩ | ⟨hml2, hB2', hρm2, hnw2⟩
      · rw [← hρk2]
        obtain ⟨ty2, cs2, r2, rfl, hr2⟩ := liveB B2' hnro2 (by rw [← hren2]; exact hd2)
        refine ho1 k2 _ (fun e => hne ?_) hk2' hr2
        rw [← hgk2, ← hgk, e]
      · rw [hρm2]
        intro heq
        have h3 : (subFr (fun n => pl ρ (ν n)) σ0 w).Z (ρ m2).1 = w.heap[(ρ m2).1]? := by
          simp only [subFr]
          exact if_neg (fun ⟨n, C, h1, h2, h3⟩ => stays m2 B2 hB2' hd2 hnw2 n C h1 h2 h3)
        rw [heq] at h3
        rw [hz1] at h3
        have h4 := hs.lt hB2' hd2
        rw [heq] at h4
        rw [Array.getElem?_eq_getElem h4] at h3
        cases h3
    · obtain ⟨hz1, ho1⟩ := hs.own m _ hB' hr
      rw [hρm]
      refine ⟨hz1, fun m2 B2 hne hB2 hd2 => ?_⟩
      rcases get m2 B2 hB2 with ⟨k2, B2', hkl2, hk2', hren2, hρk2, hnro2, hgk2⟩ | ⟨hml2, hB2', hρm2, hnw2⟩
      · obtain ⟨ty2, cs2, r2, rfl, hr2⟩ := liveB B2' hnro2 (by rw [← hren2]; exact hd2)
        obtain ⟨hz2, _⟩ := hs'.own k2 _ hk2' hr2
        rw [hρk2] at hz2
        intro heq
        have h3 : (subFr (fun n => pl ρ (ν n)) σ0 w).Z (ρ m).1 = w.heap[(ρ m).1]? := by
          simp only [subFr]
          exact if_neg (fun ⟨n, C, h1, h2, h3⟩ => stays m _ hB' hr.live hnw n C h1 h2 h3)
        rw [← heq, hz2] at h3
        have h4 := hs.lt hB' hr.live
        rw [← heq] at h4
        rw [Array.getElem?_eq_getElem h4] at h3
        cases h3
      · rw [hρm2]
        exact ho1 m2 B2 hne hB2' hd2
end
end Go.Abs
