import Derived.Test.YtfngcejaphhmmaaGreatDoorAbsI
import Derived.ProofKit
import Derived.Below
import Derived.Carry
import Derived.SizedLaws
import Derived.Deep.Slices
namespace Go.Abs
set_option linter.unusedVariables false
set_option linter.unusedSimpArgs false
def rnp (ν : Nat → Nat × Nat) (x : Nat × Nat) : Nat × Nat := ((ν x.1).1, (ν x.1).2 + x.2)
def renC (ν : Nat → Nat × Nat) : AV → AV
  | .p n o => .p (ν n).1 ((ν n).2 + o)
  | .sl n o l c => .sl (ν n).1 ((ν n).2 + o) l c
  | .fn f a c => .fn f (a.map (rnp ν)) (c.map (rnp ν))
  | .mp n => .mp (ν n).1
  | x => x
def ren1 (ν : Nat → Nat × Nat) : AV → AV
  | .agg l => .agg (l.map (renC ν))
  | x => renC ν x
def ren (ν : Nat → Nat × Nat) : AV → AV
  | .tup l => .tup (l.map (ren1 ν))
  | x => ren1 ν x
def renB (ν : Nat → Nat × Nat) : AB → AB
  | .dead => .dead
  | .ro cs => .ro (cs.map (renC ν))
  | .rw ty cs r => .rw ty (cs.map (renC ν)) r
  | .mb P k e n f => .mb P k e n f
  | .gl b v => .gl b v
def below (N : Nat) : AV → Bool
  | .p n _ | .sl n _ _ _ | .mp n => decide (n < N)
  | .fn _ a c => a.all (fun x => decide (x.1 < N)) && c.all (fun x => decide (x.1 < N))
  | _ => true
def below1 (N : Nat) : AV → Bool
  | .agg l => l.all (below N)
  | x => below N x
def belowT (N : Nat) : AV → Bool
  | .tup l => l.all (below1 N)
  | x => below1 N x
def pl (ρ : Pl) (x : Nat × Nat) : Nat × Nat := ((ρ x.1).1, (ρ x.1).2 + x.2)
theorem ad_pl (ρ : Pl) (ν : Nat → Nat × Nat) (n o : Nat) : ad ρ (ν n).1 ((ν n).2 + o) = ad (fun n => pl ρ (ν n)) n o := by
  simp [ad, pl, Nat.add_assoc]
theorem MC.back {ρ ρ0 : Pl} {N N0 : Nat} {ν : Nat → Nat × Nat} {x : AV} {v : Value} (h : MC ρ N (renC ν x) v) (hb : below N0 x = true) (he : ∀ n, n < N0 → ρ0 n = pl ρ (ν n)) : MC ρ0 N0 x v := by
  have hp : ∀ n o, n < N0 → ad ρ (ν n).1 ((ν n).2 + o) = ad ρ0 n o := fun n o hn => by rw [ad_pl]; simp only [ad, he n hn]
  have hps : ∀ l : List (Nat × Nat), (∀ x ∈ l, x.1 < N0) → ptrs ρ (l.map (rnp ν)) = ptrs ρ0 l := by
    intro l hl
    simp only [ptrs, List.map_map]
    apply List.map_congr_left
    intro x hx
    simp only [Function.comp, rnp]
    rw [hp _ _ (hl x hx)]
  cases x <;> simp only [renC, MC] at h ⊢ <;> first
    | exact h
    | (simp only [below, decide_eq_true_eq] at hb
       refine ⟨hb, ?_⟩
       first
         | (rw [h.2, hp _ _ hb])
         | (rw [h.2, he _ hb]; rfl)
         | (rw [← hp _ _ hb]; exact h.2))
    | (simp only [below, Bool.and_eq_true, List.all_eq_true, decide_eq_true_eq] at hb
       refine ⟨hb.1, hb.2, ?_⟩
       rw [h.2.2, hps _ hb.1, hps _ hb.2])
theorem MC.on {ρ ρ0 : Pl} {N N0 : Nat} {ν : Nat → Nat × Nat} {x : AV} {v : Value} (h : MC ρ0 N0 x v) (he : ∀ n, n < N0 → (ν n).1 < N ∧ ρ0 n = pl ρ (ν n)) : MC ρ N (renC ν x) v := by
  have hp : ∀ n o, n < N0 → ad ρ (ν n).1 ((ν n).2 + o) = ad ρ0 n o := fun n o hn => by rw [ad_pl]; simp only [ad, (he n hn).2]
  have hps : ∀ l : List (Nat × Nat), (∀ x ∈ l, x.1 < N0) → ptrs ρ (l.map (rnp ν)) = ptrs ρ0 l := by
    intro l hl
    simp only [ptrs, List.map_map]
    apply List.map_congr_left
    intro x hx
    simp only [Function.comp, rnp]
    rw [hp _ _ (hl x hx)]
  cases x <;> simp only [renC, MC] at h ⊢ <;> first
    | exact h
    | (refine ⟨(he _ h.1).1, ?_⟩
       first
         | (rw [h.2, hp _ _ h.1])
         | (rw [h.2, (he _ h.1).2]; rfl)
         | (rw [hp _ _ h.1]; exact h.2))
    | (refine ⟨?_, ?_, ?_⟩
       · intro x hx
         obtain ⟨y, hy, rfl⟩ := List.mem_map.1 hx
         exact (he _ (h.1 y hy)).1
       · intro x hx
         obtain ⟨y, hy, rfl⟩ := List.mem_map.1 hx
         exact (he _ (h.2.1 y hy)).1
       · rw [h.2.2, hps _ h.1, hps _ h.2.1])
theorem MCs.back {ρ ρ0 : Pl} {N N0 : Nat} {ν : Nat → Nat × Nat} (he : ∀ n, n < N0 → ρ0 n = pl ρ (ν n)) : ∀ {l : List AV} {vs : List Value}, MCs ρ N (l.map (renC ν)) vs → l.all (below N0) = true → MCs ρ0 N0 l vs
  | [], [], _, _ => trivial
  | x :: l, v :: vs, h, hb => by
    simp only [List.all_cons, Bool.and_eq_true] at hb
    exact ⟨h.1.back hb.1 he, MCs.back he h.2 hb.2⟩
  | [], _ :: _, h, _ => h.elim
  | _ :: _, [], h, _ => h.elim
theorem MCs.on {ρ ρ0 : Pl} {N N0 : Nat} {ν : Nat → Nat × Nat} (he : ∀ n, n < N0 → (ν n).1 < N ∧ ρ0 n = pl ρ (ν n)) : ∀ {l : List AV} {vs : List Value}, MCs ρ0 N0 l vs → MCs ρ N (l.map (renC ν)) vs
  | [], [], _ => trivial
  | x :: l, v :: vs, h => ⟨h.1.on he, MCs.on he h.2⟩
  | [], _ :: _, h => h.elim
  | _ :: _, [], h => h.elim
theorem M1.back {ρ ρ0 : Pl} {N N0 : Nat} {ν : Nat → Nat × Nat} (he : ∀ n, n < N0 → ρ0 n = pl ρ (ν n)) {x : AV} {v : Value} (h : M1 ρ N (ren1 ν x) v) (hb : below1 N0 x = true) : M1 ρ0 N0 x v := by
  cases x
  case agg l => obtain ⟨vs, hv, hl⟩ := h; exact ⟨vs, hv, hl.back he hb⟩
  case tup l => exact h.elim
  all_goals
    (refine M1.ofMC (MC.back (ρ := ρ) (N := N) (ν := ν) ?_ hb he)
     simp only [ren1, renC, M1] at h ⊢
     exact h)
theorem M1.on {ρ ρ0 : Pl} {N N0 : Nat} {ν : Nat → Nat × Nat} (he : ∀ n, n < N0 → (ν n).1 < N ∧ ρ0 n = pl ρ (ν n)) {x : AV} {v : Value} (h : M1 ρ0 N0 x v) : M1 ρ N (ren1 ν x) v := by
  cases x
  case agg l => obtain ⟨vs, hv, hl⟩ := h; exact ⟨vs, hv, hl.on he⟩
  case tup l => exact h.elim
  all_goals
    (simp only [ren1]
     exact M1.ofMC (MC.on (ρ0 := ρ0) (N0 := N0) (by simpa only [M1] using h) he))
theorem M1s.back {ρ ρ0 : Pl} {N N0 : Nat} {ν : Nat → Nat × Nat} (he : ∀ n, n < N0 → ρ0 n = pl ρ (ν n)) : ∀ {l : List AV} {vs : List Value}, M1s ρ N (l.map (ren1 ν)) vs → l.all (below1 N0) = true → M1s ρ0 N0 l vs
  | [], [], _, _ => trivial
  | x :: l, v :: vs, h, hb => by
    simp only [List.all_cons, Bool.and_eq_true] at hb
    exact ⟨h.1.back he hb.1, M1s.back he h.2 hb.2⟩
  | [], _ :: _, h, _ => h.elim
  | _ :: _, [], h, _ => h.elim
theorem M1s.on {ρ ρ0 : Pl} {N N0 : Nat} {ν : Nat → Nat × Nat} (he : ∀ n, n < N0 → (ν n).1 < N ∧ ρ0 n = pl ρ (ν n)) : ∀ {l : List AV} {vs : List Value}, M1s ρ0 N0 l vs → M1s ρ N (l.map (ren1 ν)) vs
  | [], [], _ => trivial
  | x :: l, v :: vs, h => ⟨h.1.on he, M1s.on he h.2⟩
  | [], _ :: _, h => h.elim
  | _ :: _, [], h => h.elim
theorem M.back {ρ ρ0 : Pl} {N N0 : Nat} {ν : Nat → Nat × Nat} (he : ∀ n, n < N0 → ρ0 n = pl ρ (ν n)) {x : AV} {v : Value} (h : M ρ N (ren ν x) v) (hb : belowT N0 x = true) : M ρ0 N0 x v := by
  cases x
  case tup l => obtain ⟨vs, hv, hl⟩ := h; exact ⟨vs, hv, hl.back he hb⟩
  case j => trivial
  all_goals
    (refine M.ofM1 (M1.back (ρ := ρ) (N := N) (ν := ν) he ?_ hb)
     simp only [ren, ren1, renC, M] at h ⊢
     exact h)
theorem M.on {ρ ρ0 : Pl} {N N0 : Nat} {ν : Nat → Nat × Nat} (he : ∀ n, n < N0 → (ν n).1 < N ∧ ρ0 n = pl ρ (ν n)) {x : AV} {v : Value} (h : M ρ0 N0 x v) : M ρ N (ren ν x) v := by
  cases x
  case tup l => obtain ⟨vs, hv, hl⟩ := h; exact ⟨vs, hv, hl.on he⟩
  case j => trivial
  all_goals
    (simp only [ren]
     exact M.ofM1 (M1.on (ρ0 := ρ0) (N0 := N0) he (by simpa only [M] using h)))
/-! ### a heap seen under other names -/
def FitB (ν : Nat → Nat × Nat) (N0 : Nat) (σ : List AB) (m : Nat × Nat) : AB → Prop
  | .dead => True
  | .ro cs => cs.all (below N0) = true ∧ (cs = [] ∨ ∃ cs', cellsOf σ m.1 = some cs' ∧ m.2 + cs.length ≤ cs'.length ∧ cs.map (renC ν) = win cs' m.2 cs.length)
  | .rw ty cs r => cs.all (below N0) = true ∧ m.2 = 0 ∧ σ[m.1]? = some (.rw ty (cs.map (renC ν)) r)
  | .mb .. => False
  | .gl b v => m.2 = 0 ∧ σ[m.1]? = some (.gl b v)
def FitW (ν : Nat → Nat × Nat) (N0 : Nat) (σ : List AB) (m : Nat × Nat) : AB → Prop
  | .dead => True
  | .ro cs => cs.all (below N0) = true ∧ (cs = [] ∨ ∃ cs', cellsOf σ m.1 = some cs' ∧ m.2 + cs.length ≤ cs'.length ∧ cs.map (renC ν) = win cs' m.2 cs.length)
  | .rw ty cs r => (cs = [] ∧ r = 0) ∨ (cs.all (below N0) = true ∧ m.2 = 0 ∧ σ[m.1]? = some (.rw ty (cs.map (renC ν)) r))
  | .mb P k e n f => m.2 = 0 ∧ σ[m.1]? = some (.mb P k e n f)
  | .gl b v => m.2 = 0 ∧ σ[m.1]? = some (.gl b v)
theorem FitB.w {ν : Nat → Nat × Nat} {N0 : Nat} {σ : List AB} {m : Nat × Nat} {B : AB} (h : FitB ν N0 σ m B) : FitW ν N0 σ m B := by
  cases B with
  | dead => trivial
  | ro cs => exact h
  | rw ty cs r => exact .inr h
  | mb P k e n f => exact h.elim
  | gl b v => exact h
def isRw : AB → Bool
  | .rw .. => true
  | _ => false
def isOw : AB → Bool
  | .rw .. => true
  | .mb .. => true
  | _ => false
theorem isW.ow {B : AB} (h : isW B) : isOw B = true := by cases B <;> first | rfl | exact h.elim
def isDead : AB → Bool
  | .dead => true
  | _ => false
def Fits (ν : Nat → Nat × Nat) (σ σ0 : List AB) : Prop :=
  (∀ n B, σ0[n]? = some B → FitB ν σ0.length σ (ν n) B) ∧
  ∀ n B m B', σ0[n]? = some B → isRw B = true → σ0[m]? = some B' → isDead B' = false → m ≠ n → (ν m).1 ≠ (ν n).1
def FitsW (ν : Nat → Nat × Nat) (σ σ0 : List AB) : Prop :=
  (∀ n B, σ0[n]? = some B → FitW ν σ0.length σ (ν n) B) ∧
  ∀ n B m B', σ0[n]? = some B → isOw B = true → σ0[m]? = some B' → isDead B' = false → m ≠ n → (ν m).1 ≠ (ν n).1
theorem FitB.rwo {ν : Nat → Nat × Nat} {N0 : Nat} {σ : List AB} {m : Nat × Nat} {B : AB} (h : FitB ν N0 σ m B) (ho : isOw B = true) : isRw B = true := by cases B <;> first | rfl | exact h.elim | exact ho
theorem Fits.w {ν : Nat → Nat × Nat} {σ σ0 : List AB} (h : Fits ν σ σ0) : FitsW ν σ σ0 := ⟨fun n B hn => (h.1 n B hn).w, fun n B m B' hn ho => h.2 n B m B' hn ((h.1 n B hn).rwo ho)⟩
theorem cellsOf_cases {σ : List AB} {n : Nat} {cs : List AV} (h : cellsOf σ n = some cs) : σ[n]? = some (.ro cs) ∨ ∃ ty r, σ[n]? = some (.rw ty cs r) := by
  unfold cellsOf at h
  split at h
  · cases h; exact .inl (by assumption)
  · cases h; exact .inr ⟨_, _, by assumption⟩
  · cases h
theorem Sim.ren {F : Fr} {ρ : Pl} {σ σ0 : List AB} {w : World} (h : Sim F ρ σ w) {ν : Nat → Nat × Nat} (hf : FitsW ν σ σ0) : Sim F (fun n => pl ρ (ν n)) σ0 w := by
  obtain ⟨hb, hsep⟩ := hf
  refine ⟨h.os, h.tape, h.out, h.sz, h.fr, ?_, ?_⟩
  · intro n B hn
    have hfit := hb n B hn
    cases B with
    | dead => trivial
    | ro cs =>
      intro hne
      obtain ⟨hbel, he | ⟨cs', hc, hle, he⟩⟩ := hfit
      · exact absurd he hne
      obtain ⟨c, T, fr, h1, h2⟩ := cell_of h hc (fun e => hne (by subst e; simp at hle; exact hle.2))
      refine ⟨c, T, fr, h1, ?_⟩
      intro k x hk
      have hw := (h2.sub (ν n).2 cs.length) k (renC ν x) (by
        show (win cs' (ν n).2 cs.length)[k]? = some (renC ν x)
        rw [← he, List.getElem?_map, hk]; rfl)
      obtain ⟨v, hv, hm⟩ := hw
      exact ⟨v, hv, hm.back (List.all_eq_true.1 hbel x (List.mem_of_getElem? hk)) fun _ _ => rfl⟩
    | rw ty cs r =>
      obtain ⟨rfl, rfl⟩ | ⟨hbel, h0, hs⟩ := hfit
      · exact ⟨Nat.le_refl _, fun h => absurd rfl h⟩
      obtain ⟨hlr, hblk⟩ := h.bl _ _ hs
      refine ⟨by simpa using hlr, fun hr => ?_⟩
      obtain ⟨h1, c, h2, h3, h4⟩ := hblk hr
      refine ⟨by simp [pl, h1, h0], c, h2, h3, ?_⟩
      intro k x hk
      obtain ⟨v, hv, hm⟩ := h4 k (renC ν x) (by rw [List.getElem?_map, hk]; rfl)
      exact ⟨v, hv, hm.back (List.all_eq_true.1 hbel x (List.mem_of_getElem? hk)) fun _ _ => rfl⟩
    | mb P k e q f =>
      obtain ⟨h0, hs⟩ := hfit
      obtain ⟨h1, h2⟩ := h.bl _ _ hs
      exact ⟨by simp [pl, h1, h0], h2⟩
    | gl b v =>
      obtain ⟨h0, hs⟩ := hfit
      obtain ⟨h1, T, fr, h2⟩ := h.bl _ _ hs
      exact ⟨by simp [pl, h1, h0], T, fr, h2⟩
  · intro n B0 hn hr
    have key : ∃ C, σ[(ν n).1]? = some C ∧ isW C := by
      have hfit := hb n _ hn
      cases B0 with
      | dead => exact hr.elim
      | ro cs => exact hr.elim
      | rw ty cs r =>
        obtain ⟨_, e⟩ | ⟨hbel, h0, hs⟩ := hfit
        · exact absurd e hr
        · exact ⟨_, hs, hr⟩
      | mb P k e q f => exact ⟨_, hfit.2, trivial⟩
      | gl b v => exact hr.elim
    obtain ⟨C, hs, hC⟩ := key
    obtain ⟨hz, ho⟩ := h.own _ _ hs hC
    refine ⟨hz, fun m B hm hB hd => ?_⟩
    have hne := hsep n _ m B hn hr.ow hB (by cases B <;> first | rfl | exact hd.elim) hm
    have hmf := hb m B hB
    cases B with
    | dead => exact hd.elim
    | ro cs' =>
      obtain ⟨_, he | ⟨cs2, hc, hle, _⟩⟩ := hmf
      · exact absurd he hd
      have hcne : cs2 ≠ [] := fun e => hd (by subst e; simp at hle; exact hle.2)
      rcases cellsOf_cases hc with h3 | ⟨ty3, r3, h3⟩
      · exact ho _ _ hne h3 hcne
      · refine ho _ _ hne h3 fun e => hcne ?_
        have := (h.bl _ _ h3).1
        exact List.eq_nil_of_length_eq_zero (by omega)
    | rw ty' cs' r' =>
      obtain ⟨_, e⟩ | hmf := hmf
      · exact absurd e hd
      · exact ho _ _ hne hmf.2.2 hd
    | mb P k e q f => exact ho _ _ hne hmf.2 trivial
    | gl b v => exact ho _ _ hne hmf.2 trivial
theorem isW_rw {ν : Nat → Nat × Nat} {N0 : Nat} {σ : List AB} {m : Nat × Nat} {B : AB} (h : isW B) (hf : FitB ν N0 σ m B) : ∃ ty cs r, B = .rw ty cs r ∧ r ≠ 0 := by
  cases B with
  | dead => exact h.elim
  | ro cs => exact h.elim
  | rw ty cs r => exact ⟨ty, cs, r, rfl, h⟩
  | mb P k e q f => exact hf.elim
  | gl b v => exact h.elim
noncomputable def subFr (ρ0 : Pl) (σ0 : List AB) (w : World) : Fr where
  Z := fun b => open Classical in if ∃ n B, σ0[n]? = some B ∧ isW B ∧ (ρ0 n).1 = b then none else w.heap[b]?
  os := w.os
  tape := w.tape
  out := w.output
  sz := w.heap.size
theorem Sim.refr {F : Fr} {ρ0 : Pl} {σ0 : List AB} {w : World} (h : Sim F ρ0 σ0 w) : Sim (subFr ρ0 σ0 w) ρ0 σ0 w := by
  refine ⟨rfl, rfl, rfl, Nat.le_refl _, ?_, h.bl, ?_⟩
  · intro b o hb
    simp only [subFr] at hb
    split at hb
    · cases hb
    · exact hb
  · intro n B0 hn hr
    refine ⟨?_, (h.own n B0 hn hr).2⟩
    simp only [subFr]
    exact if_pos ⟨n, _, hn, hr, rfl⟩
theorem subFr_kept {ρ0 : Pl} {σ0 : List AB} {w w' : World} {ρ' : Pl} {σ' : List AB} (h : Sim (subFr ρ0 σ0 w) ρ' σ' w') {b : Nat} (hb : ∀ n B, σ0[n]? = some B → isW B → (ρ0 n).1 ≠ b) {o : Obj} (ho : w.heap[b]? = some o) : w'.heap[b]? = some o := by
  refine h.fr b o ?_
  simp only [subFr]
  rw [if_neg (fun ⟨n, B, h1, h2, h3⟩ => hb n B h1 h2 h3)]
  exact ho
def sees1 (ν : Nat → Nat × Nat) (x x1 : AV) : Prop := x = ren1 ν x1 ∨ (x = .sn ∧ ∃ n o, x1 = .sl n o 0 0)
def seesL (ν : Nat → Nat × Nat) : List AV → List AV → Prop
  | [], [] => True
  | x :: l, x1 :: r => sees1 ν x x1 ∧ seesL ν l r
  | _, _ => False
def sees (ν : Nat → Nat × Nat) (x x1 : AV) : Prop := x1 = .j ∨ x = ren ν x1 ∨ (x = .sn ∧ ∃ n o, x1 = .sl n o 0 0) ∨ ∃ l r, x = .tup l ∧ x1 = .tup r ∧ seesL ν l r
theorem sees1.m1 {ρ ρ0 : Pl} {N N0 : Nat} {ν : Nat → Nat × Nat} (he : ∀ n, n < N0 → ρ0 n = pl ρ (ν n)) {x x1 : AV} {v : Value} (hs : sees1 ν x x1) (h : M1 ρ N x v) (hb : below1 N0 x1 = true) : M1 ρ0 N0 x1 v := by
  rcases hs with rfl | ⟨rfl, n, o, rfl⟩
  · exact M1.back he h hb
  · simp only [M1, MC] at h ⊢
    exact ⟨by simpa [below1, below] using hb, Nat.le_refl _, .inr ⟨trivial, trivial, h⟩⟩
theorem seesL.m1s {ρ ρ0 : Pl} {N N0 : Nat} {ν : Nat → Nat × Nat} (he : ∀ n, n < N0 → ρ0 n = pl ρ (ν n)) : ∀ {l r : List AV} {vs : List Value}, seesL ν l r → M1s ρ N l vs → r.all (below1 N0) = true → M1s ρ0 N0 r vs
  | [], [], [], _, _, _ => trivial
  | x :: l, x1 :: r, v :: vs, hs, h, hb => by
    simp only [List.all_cons, Bool.and_eq_true] at hb
    exact ⟨hs.1.m1 he h.1 hb.1, seesL.m1s he hs.2 h.2 hb.2⟩
  | [], [], _ :: _, _, h, _ => h.elim
  | [], _ :: _, _, h, _, _ => h.elim
  | _ :: _, [], _, h, _, _ => h.elim
  | _ :: _, _ :: _, [], _, h, _ => h.elim
theorem sees.m {ρ ρ0 : Pl} {N N0 : Nat} {ν : Nat → Nat × Nat} (he : ∀ n, n < N0 → ρ0 n = pl ρ (ν n)) {x x1 : AV} {v : Value} (hs : sees ν x x1) (h : M ρ N x v) (hb : belowT N0 x1 = true) : M ρ0 N0 x1 v := by
  rcases hs with rfl | rfl | hs | ⟨l, r, rfl, rfl, hs⟩
  · trivial
  · exact M.back he h hb
  · obtain ⟨rfl, n, o, rfl⟩ := hs
    simp only [M, M1, MC] at h ⊢
    exact ⟨by simpa [belowT, below1, below] using hb, Nat.le_refl _, .inr ⟨trivial, trivial, h⟩⟩
  · obtain ⟨vs, hv, hl⟩ := h.tupv
    exact ⟨vs, hv, hs.m1s he hl hb⟩
section
variable {P : Program} {f : FuncId} {args0 : List AV} {σ0 σ : List AB} {K0 K : AV → List AB → Prop} {ν : Nat → Nat × Nat}
theorem call_same (h : CallWp P f args0 σ0 fun x σ' => K0 x σ' ∧ σ' = σ0) (hf : Fits ν σ σ0) (hν : ∀ n, n < σ0.length → (ν n).1 < σ.length) (hb : args0.all (below1 σ0.length) = true) {args : List AV} (ha : seesL ν args args0) (hk : ∀ x, K0 x σ0 → K (ren ν x) σ) :
    CallWp P f args σ K := by
  refine ⟨h.1, fun F ρ w vs hs hv => ?_⟩
  have hs0 := (hs.ren hf.w).refr
  refine (h.2 _ _ w vs hs0 (ha.m1s (ρ := ρ) (N := σ.length) (fun _ _ => rfl) hv hb)).mono ?_
  rintro e w' ⟨v, x, σ', ρ', he, hs', hN, hρ, hm, hk0, rfl⟩
  refine ⟨v, ren ν x, σ, ρ, he, ?_, Nat.le_refl _, fun _ _ => rfl, hm.on fun n hn => ⟨hν n hn, hρ n hn⟩, hk x hk0⟩
  have hpass : ∀ n B k B0, σ[n]? = some B → live B → σ'[k]? = some B0 → isW B0 → (pl ρ (ν k)).1 = (ρ n).1 → n = (ν k).1 := by
    intro n B k B0 hn hd hk hW heq
    obtain ⟨ty, cs, r, rfl, hr⟩ := isW_rw hW (hf.1 k _ hk)
    obtain ⟨_, h0, hsk⟩ := hf.1 k _ hk
    refine Classical.byContradiction fun hne => ?_
    exact (hs.own _ _ hsk hr).2 n B hne hn hd heq.symm
  refine ⟨hs'.os.trans hs.os, hs'.tape.trans hs.tape, hs'.out.trans hs.out, Nat.le_trans hs.sz hs'.sz, ?_, ?_, hs.own⟩
  · intro b o hb'
    refine subFr_kept hs' (fun n B hn hW heq => ?_) (hs.fr b o hb')
    obtain ⟨ty, cs, r, rfl, hr⟩ := isW_rw hW (hf.1 n _ hn)
    obtain ⟨_, h0, hsk⟩ := hf.1 n _ hn
    have := (hs.own _ _ hsk hr).1
    rw [show (ρ (ν n).1).1 = b from heq] at this
    rw [this] at hb'
    cases hb'
  · intro n B hn
    by_cases hd : live B
    · by_cases hex : ∃ k B0, σ'[k]? = some B0 ∧ isW B0 ∧ (pl ρ (ν k)).1 = (ρ n).1
      · obtain ⟨k, B0, hk', hW, heq⟩ := hex
        have hnk := hpass n B k B0 hn hd hk' hW heq
        obtain ⟨ty, cs, r, rfl, hr⟩ := isW_rw hW (hf.1 k _ hk')
        obtain ⟨_, h0, hsk⟩ := hf.1 k _ hk'
        rw [← hnk] at hsk
        rw [hn] at hsk
        cases hsk
        obtain ⟨hlr, hblk⟩ := hs'.bl k _ hk'
        obtain ⟨h1, c, h2, h3, h4⟩ := hblk hr
        have hkl := (List.getElem?_eq_some_iff.1 hk').1
        rw [hρ k hkl] at h2
        refine ⟨by simpa using hlr, fun _ => ⟨((hs.bl n _ hn).2 hr).1, c, ?_, h3, ?_⟩⟩
        · simp only [pl, ← hnk] at h2; exact h2
        · intro j y hj
          rw [List.getElem?_map] at hj
          cases hcj : cs[j]? with
          | none => rw [hcj] at hj; cases hj
          | some y0 =>
            rw [hcj] at hj
            simp only [Option.map_some, Option.some.injEq] at hj
            subst hj
            obtain ⟨u, hu, hmu⟩ := h4 j y0 hcj
            exact ⟨u, hu, hmu.on fun n hn => ⟨hν n hn, hρ n hn⟩⟩
      · refine (hs.bl n B hn).heap fun _ => ?_
        have hlt := hs.lt hn hd
        rw [Array.getElem?_eq_getElem hlt]
        exact subFr_kept hs' (fun k B0 hk' hW heq => hex ⟨k, B0, hk', hW, heq⟩) (Array.getElem?_eq_getElem hlt)
    · exact (hs.bl n B hn).heap fun h => absurd h hd
end
/-! ### seeing a state under other names -/
def nat2 (ν : List Nat) (n : Nat) : Nat × Nat := (ν.getD n 0, 0)
def StFits (ν : Nat → Nat × Nat) (s s1 : St) : Prop :=
  (∀ p ∈ s1.T, belowT s1.σ.length p.2 = true ∧ sees ν (look s.T p.1) p.2) ∧ FitsW ν s.σ s1.σ
theorem look_mem {T : List (Nat × AV)} {t : Nat} : (∃ p ∈ T, p.1 = t ∧ look T t = p.2) ∨ look T t = .j := by
  induction T with
  | nil => exact .inr rfl
  | cons p T ih =>
    obtain ⟨d, v⟩ := p
    by_cases e : d = t
    · exact .inl ⟨(d, v), by simp, e, by simp [look, e]⟩
    · rcases ih with ⟨q, hq, h1, h2⟩ | h
      · exact .inl ⟨q, by simp [hq], h1, by simp [look, e, h2]⟩
      · exact .inr (by simp [look, e, h])
theorem Wk.of {L0 nt : Nat} {s s1 : St} (ν : List Nat) (hL : L0 ≤ s1.σ.length) (hid : ∀ n, n < L0 → ν.getD n 0 = n) (h : StFits (nat2 ν) s s1) : Wk L0 nt s s1 := by
  intro F ρ a w _ hs
  refine ⟨fun n => pl ρ (nat2 ν n), fun n hn => by simp only [pl, nat2, hid n hn]; rfl, hL, hs.1.ren h.2, hs.2.1, hs.2.2.1, fun t => ?_⟩
  rcases look_mem (T := s1.T) (t := t) with ⟨p, hp, h1, h2⟩ | h2
  · obtain ⟨hb, hse⟩ := h.1 p hp
    rw [h2]
    rw [h1] at hse
    exact hse.m (ρ := ρ) (N := s.σ.length) (fun _ _ => rfl) (hs.2.2.2 t) hb
  · rw [h2]; trivial
theorem Wk.refl (L0 nt : Nat) (s : St) : Wk L0 nt s s := fun F ρ a w hL hs => ⟨ρ, fun _ _ => rfl, hL, hs⟩
theorem Fin.of {L0 : Nat} {σ σ1 : List AB} {v v1 : AV} {K : AV → List AB → Prop} (ν : List Nat) (hL : L0 ≤ σ1.length) (hid : ∀ n, n < L0 → ν.getD n 0 = n) (hv : sees (nat2 ν) v v1) (hb : belowT σ1.length v1 = true) (hf : FitsW (nat2 ν) σ σ1) (hk : K v1 σ1) : Fin L0 σ v K := by
  intro F ρ w cv _ hs hm
  exact ⟨σ1, v1, fun n => pl ρ (nat2 ν n), fun n hn => by simp only [pl, nat2, hid n hn]; rfl, hL, hs.ren hf, hv.m (ρ := ρ) (N := σ.length) (fun _ _ => rfl) hm hb, hk⟩
theorem Fin.plain {L0 : Nat} {σ : List AB} {v : AV} {K : AV → List AB → Prop} (hk : K v σ) : Fin L0 σ v K :=
  fun F ρ w cv hL hs hm => ⟨σ, v, ρ, fun _ _ => rfl, hL, hs, hm, hk⟩
/-! ### a callee that writes, or hands back new blocks -/
def out (ν : Nat → Nat × Nat) (N0 N : Nat) (n : Nat) : Nat × Nat := if n < N0 then ν n else (N + (n - N0), 0)
def updL (g : Nat → Nat × Nat) (ν : Nat → Nat × Nat) : Nat → List AB → List AB → List AB → List AB
  | k, .rw .. :: r, B' :: r', σ => updL g ν (k + 1) r r' (σ.set (ν k).1 (renB g B'))
  | k, _ :: r, _ :: r', σ => updL g ν (k + 1) r r' σ
  | _, _, _, σ => σ
theorem updL_len (g ν : Nat → Nat × Nat) : ∀ (r r' : List AB) (k : Nat) (σ : List AB), (updL g ν k r r' σ).length = σ.length
  | [], _, _, _ => by simp [updL]
  | B :: r, [], _, _ => by cases B <;> simp [updL]
  | B :: r, B' :: r', k, σ => by
    cases B <;> simp only [updL] <;> rw [updL_len g ν r r'] <;> simp
theorem updL_old (g ν : Nat → Nat × Nat) : ∀ (r r' : List AB) (k : Nat) (σ : List AB) (m : Nat), (∀ j B, r[j]? = some B → isRw B = true → (ν (k + j)).1 ≠ m) → (updL g ν k r r' σ)[m]? = σ[m]?
  | [], _, _, _, _, _ => by simp [updL]
  | B :: r, [], _, _, _, _ => by cases B <;> simp [updL]
  | B :: r, B' :: r', k, σ, m, h => by
    have h' : ∀ j B, r[j]? = some B → isRw B = true → (ν (k + 1 + j)).1 ≠ m := fun j B hj hB => by
      have := h (j + 1) B (by simpa using hj) hB
      rwa [show k + 1 + j = k + (j + 1) from by omega]
    cases B with
    | rw ty cs q =>
      simp only [updL]
      rw [updL_old g ν r r' (k + 1) _ m h', List.getElem?_set, if_neg (by have := h 0 _ rfl rfl; simpa using this)]
    | dead => simp only [updL]; exact updL_old g ν r r' (k + 1) _ m h'
    | ro cs => simp only [updL]; exact updL_old g ν r r' (k + 1) _ m h'
    | mb P q e n f => simp only [updL]; exact updL_old g ν r r' (k + 1) _ m h'
    | gl b v => simp only [updL]; exact updL_old g ν r r' (k + 1) _ m h'
theorem updL_new (g ν : Nat → Nat × Nat) : ∀ (r r' : List AB) (k : Nat) (σ : List AB) (j : Nat) (B B' : AB), r[j]? = some B → isRw B = true → r'[j]? = some B' → (ν (k + j)).1 < σ.length →
    (∀ i C, r[i]? = some C → isRw C = true → i ≠ j → (ν (k + i)).1 ≠ (ν (k + j)).1) → (updL g ν k r r' σ)[(ν (k + j)).1]? = some (renB g B')
  | [], _, _, _, j, _, _, h, _, _, _, _ => by simp at h
  | _ :: _, [], _, _, j, _, _, _, _, h, _, _ => by simp at h
  | A :: r, A' :: r', k, σ, 0, B, B', hB, hrw, hB', hlt, hsep => by
    simp at hB hB'
    subst hB hB'
    cases A with
    | dead => cases hrw
    | ro cs => cases hrw
    | mb P q e n f => cases hrw
    | gl b v => cases hrw
    | rw ty cs q =>
      simp only [updL, Nat.add_zero]
      rw [updL_old g ν r r' (k + 1) _ _ (fun i C hi hC => by
        have := hsep (i + 1) C (by simpa using hi) hC (by omega)
        rw [show k + 1 + i = k + (i + 1) from by omega]
        simpa using this)]
      rw [List.getElem?_set, if_pos rfl, if_pos (by simpa using hlt)]
  | A :: r, A' :: r', k, σ, j + 1, B, B', hB, hrw, hB', hlt, hsep => by
    simp at hB hB'
    have e : k + (j + 1) = k + 1 + j := by omega
    have hs' : ∀ i C, r[i]? = some C → isRw C = true → i ≠ j → (ν (k + 1 + i)).1 ≠ (ν (k + 1 + j)).1 := fun i C hi hC hij => by
      have := hsep (i + 1) C (by simpa using hi) hC (by omega)
      rwa [show k + (i + 1) = k + 1 + i from by omega, e] at this
    rw [e] at hlt ⊢
    cases A with
    | rw ty cs q => simp only [updL]; exact updL_new g ν r r' (k + 1) _ j B B' hB hrw hB' (by simpa using hlt) hs'
    | dead => simp only [updL]; exact updL_new g ν r r' (k + 1) _ j B B' hB hrw hB' hlt hs'
    | ro cs => simp only [updL]; exact updL_new g ν r r' (k + 1) _ j B B' hB hrw hB' hlt hs'
    | mb P q e n f => simp only [updL]; exact updL_new g ν r r' (k + 1) _ j B B' hB hrw hB' hlt hs'
    | gl b v => simp only [updL]; exact updL_new g ν r r' (k + 1) _ j B B' hB hrw hB' hlt hs'
def isRo : AB → Bool
  | .ro _ => true
  | .mb .. => true
  | .gl .. => true
  | _ => false
def plug (ν : Nat → Nat × Nat) (σ σ0 σ' : List AB) : List AB :=
  updL (out ν σ0.length σ.length) ν 0 σ0 σ' σ ++ (σ'.drop σ0.length).map (renB (out ν σ0.length σ.length))
theorem Holds.on {ρ ρ0 : Pl} {N N0 : Nat} {w : World} {ν : Nat → Nat × Nat} {a : Nat × Nat} {B : AB} (h : Holds ρ0 N0 w a B) (he : ∀ n, n < N0 → (ν n).1 < N ∧ ρ0 n = pl ρ (ν n)) : Holds ρ N w a (renB ν B) := by
  have hc : ∀ {c : Array Value} {o : Nat} {cs : List AV}, Cells ρ0 N0 c o cs → Cells ρ N c o (cs.map (renC ν)) := by
    intro c o cs h k x hk
    rw [List.getElem?_map] at hk
    cases hck : cs[k]? with
    | none => rw [hck] at hk; cases hk
    | some y =>
      rw [hck] at hk
      simp only [Option.map_some, Option.some.injEq] at hk
      subst hk
      obtain ⟨v, hv, hm⟩ := h k y hck
      exact ⟨v, hv, hm.on he⟩
  cases B with
  | dead => trivial
  | ro cs =>
    intro hne
    obtain ⟨c, T, fr, h1, h2⟩ := h (fun e => hne (by rw [e]; rfl))
    exact ⟨c, T, fr, h1, hc h2⟩
  | rw ty cs r =>
    refine ⟨by simpa using h.1, fun hr => ?_⟩
    obtain ⟨h0, c, h1, h2, h3⟩ := h.2 hr
    exact ⟨h0, c, h1, h2, hc h3⟩
  | mb P k e n f => exact h
  | gl b v => exact h
section
variable {P : Program} {f : FuncId} {args0 : List AV} {σ0 σ : List AB} {K0 K : AV → List AB → Prop} {ν : Nat → Nat × Nat}
theorem call_frame (h : CallWp P f args0 σ0 K0) (hf : Fits ν σ σ0) (hν : ∀ n, n < σ0.length → (ν n).1 < σ.length) (hb : args0.all (below1 σ0.length) = true) {args : List AV} (ha : seesL ν args args0)
    (hk : ∀ x σ', σ0.length ≤ σ'.length → K0 x σ' → (∀ n B, σ'[n]? = some B → (n < σ0.length → ∃ B0, σ0[n]? = some B0 ∧ isRw B0 = true) → isRo B = false) ∧ K (ren (out ν σ0.length σ.length) x) (plug ν σ σ0 σ')) :
    CallWp P f args σ K := by
  refine ⟨h.1, fun F ρ w vs hs hv => ?_⟩
  have hs0 := (hs.ren hf.w).refr
  refine (h.2 _ _ w vs hs0 (ha.m1s (ρ := ρ) (N := σ.length) (fun _ _ => rfl) hv hb)).mono ?_
  rintro e w' ⟨v, x, σ', ρ', he, hs', hN, hρ, hm, hk0⟩
  obtain ⟨hro, hK⟩ := hk x σ' hN hk0
  generalize hg : out ν σ0.length σ.length = g at hK
  -- the caller's places
  let ρ2 : Pl := fun m => if m < σ.length then ρ m else ρ' (σ0.length + (m - σ.length))
  have hρ2o : ∀ m, m < σ.length → ρ2 m = ρ m := fun m hm => by simp only [ρ2]; exact if_pos hm
  have hρ2n : ∀ m, σ.length ≤ m → ρ2 m = ρ' (σ0.length + (m - σ.length)) := fun m hm => by simp only [ρ2]; exact if_neg (by omega)
  have hlen : (plug ν σ σ0 σ').length = σ.length + (σ'.length - σ0.length) := by simp [plug, updL_len]
  have hgo : ∀ n, n < σ0.length → g n = ν n := fun n hn => by rw [← hg]; simp [out, hn]
  have hgn : ∀ n, σ0.length ≤ n → g n = (σ.length + (n - σ0.length), 0) := fun n hn => by rw [← hg]; simp [out, show ¬ n < σ0.length by omega]
  have hon : ∀ n, n < σ'.length → (g n).1 < (plug ν σ σ0 σ').length ∧ ρ' n = pl ρ2 (g n) := by
    intro n hn
    rw [hlen]
    by_cases h1 : n < σ0.length
    · rw [hgo n h1, hρ n h1]
      have := hν n h1
      refine ⟨by omega, ?_⟩
      simp only [pl, hρ2o _ this]
    · rw [hgn n (by omega)]
      refine ⟨by simp only; omega, ?_⟩
      simp only [pl, hρ2n _ (Nat.le_add_right _ _)]
      rw [show σ0.length + (σ.length + (n - σ0.length) - σ.length) = n from by omega]
      rfl
  -- who of the caller's is written
  have hsep : ∀ k B j C, σ0[k]? = some B → isRw B = true → σ0[j]? = some C → isRw C = true → j ≠ k → (ν j).1 ≠ (ν k).1 := fun k B j C hk hB hj hC hjk => hf.2 k B j C hk hB hj (by cases C <;> first | rfl | cases hC) hjk
  -- what stands in the caller's heap
  have get : ∀ m B, (plug ν σ σ0 σ')[m]? = some B →
      (∃ k B', k < σ'.length ∧ σ'[k]? = some B' ∧ B = renB g B' ∧ ρ' k = ρ2 m ∧ isRo B' = false ∧ (g k).1 = m) ∨
      (m < σ.length ∧ σ[m]? = some B ∧ ρ2 m = ρ m ∧ ∀ k C, σ0[k]? = some C → isRw C = true → (ν k).1 ≠ m) := by
    intro m B hB
    by_cases hml : m < σ.length
    · rw [plug, List.getElem?_append_left (by rw [updL_len]; exact hml), hg] at hB
      by_cases hw : ∃ k C, σ0[k]? = some C ∧ isRw C = true ∧ (ν k).1 = m
      · obtain ⟨k, C, hk, hC, hkm⟩ := hw
        have hkl := (List.getElem?_eq_some_iff.1 hk).1
        have hk' : σ'[k]? = some σ'[k] := List.getElem?_eq_getElem (by omega)
        have hup := updL_new g ν σ0 σ' 0 σ k C σ'[k] hk hC hk' (by rw [Nat.zero_add, hkm]; exact hml) (fun i D hi hD hik => by
          rw [Nat.zero_add, Nat.zero_add]; exact hsep k C i D hk hC hi hD hik)
        rw [Nat.zero_add, hkm] at hup
        rw [hup] at hB
        have hν0 : (ν k).2 = 0 := by
          cases C with
          | dead => cases hC
          | ro cs => cases hC
          | rw ty cs r => exact (hf.1 k _ hk).2.1
          | mb P q e n f => cases hC
          | gl b v => cases hC
        have e1 : ρ2 m = pl ρ2 (g k) := by rw [hgo k hkl]; simp only [pl, hkm, hν0, Nat.add_zero]
        exact .inl ⟨k, σ'[k], by omega, hk', by simpa using hB.symm, (hon k (by omega)).2.trans e1.symm, hro k _ hk' (fun _ => ⟨C, hk, hC⟩), by rw [hgo k hkl]; exact hkm⟩
      · rw [updL_old g ν σ0 σ' 0 σ m (fun j C hj hC => by rw [Nat.zero_add]; exact fun e => hw ⟨j, C, hj, hC, e⟩)] at hB
        exact .inr ⟨hml, hB, hρ2o m hml, fun k C hk hC e => hw ⟨k, C, hk, hC, e⟩⟩
    · have hmt := (List.getElem?_eq_some_iff.1 hB).1
      rw [hlen] at hmt
      rw [plug, List.getElem?_append_right (by rw [updL_len]; omega), updL_len, List.getElem?_map, List.getElem?_drop, hg] at hB
      have hk' : σ'[σ0.length + (m - σ.length)]? = some (σ'[σ0.length + (m - σ.length)]'(by omega)) := List.getElem?_eq_getElem (by omega)
      rw [hk'] at hB
      simp only [Option.map_some, Option.some.injEq] at hB
      have e0 : g (σ0.length + (m - σ.length)) = (m, 0) := by rw [hgn _ (Nat.le_add_right _ _)]; congr 1; omega
      exact .inl ⟨_, _, by omega, hk', hB.symm, (hρ2n m (by omega)).symm, hro _ _ hk' (fun h => by omega), by rw [e0]⟩
  -- blocks of the frame are none that the callee may have written
  have wr : ∀ k B, σ0[k]? = some B → isW B → isRw B = true ∧ ∃ ty cs r, σ[(ν k).1]? = some (.rw ty cs r) ∧ r ≠ 0 := by
    intro k B hk hB
    obtain ⟨ty, cs, r, rfl, hr⟩ := isW_rw hB (hf.1 k _ hk)
    exact ⟨rfl, _, _, _, (hf.1 k _ hk).2.2, hr⟩
  have hz : ∀ k B, σ0[k]? = some B → isW B → F.Z (pl ρ (ν k)).1 = none := by
    intro k B hk hB
    obtain ⟨_, ty, cs, r, hst, hr⟩ := wr k B hk hB
    exact (hs.own _ _ hst hr).1
  have hzn : ∀ b, (subFr (fun n => pl ρ (ν n)) σ0 w).Z b = none → F.Z b = none := by
    intro b hb
    cases hzb : F.Z b with
    | none => rfl
    | some o =>
      simp only [subFr] at hb
      split at hb
      · rename_i hex
        obtain ⟨k, B, h1, h2, h3⟩ := hex
        have := hz k B h1 h2
        rw [h3] at this
        rw [this] at hzb
        cases hzb
      · rw [hs.fr b o hzb] at hb; cases hb
  have stays : ∀ m B, σ[m]? = some B → live B → (∀ k C, σ0[k]? = some C → isRw C = true → (ν k).1 ≠ m) → ∀ k C, σ0[k]? = some C → isW C → (pl ρ (ν k)).1 ≠ (ρ m).1 := by
    intro m B hm hd hnw k C hk hC heq
    obtain ⟨hrw, ty, cs, r, hst, hr⟩ := wr k C hk hC
    exact (hs.own _ _ hst hr).2 m B (fun e => hnw k C hk hrw e.symm) hm hd heq.symm
  have liveB : ∀ B, isRo B = false → live (renB g B) → ∃ ty cs r, B = .rw ty cs r ∧ r ≠ 0 := by
    intro B h1 h2
    cases B with
    | dead => exact h2.elim
    | ro cs => cases h1
    | mb P k e n f => cases h1
    | gl b v => cases h1
    | rw ty cs r => exact ⟨ty, cs, r, rfl, h2⟩
  refine ⟨v, ren g x, plug ν σ σ0 σ', ρ2, he, ?_, by rw [hlen]; omega, fun n hn => hρ2o n hn, hm.on hon, hK⟩
  refine ⟨hs'.os.trans hs.os, hs'.tape.trans hs.tape, hs'.out.trans hs.out, Nat.le_trans hs.sz hs'.sz, ?_, ?_, ?_⟩
  · intro b o hb'
    exact subFr_kept hs' (fun n B hn hW heq => by
      have := hz n B hn hW
      rw [show (pl ρ (ν n)).1 = b from heq] at this
      rw [this] at hb'; cases hb') (hs.fr b o hb')
  · intro m B hB
    rcases get m B hB with ⟨k, B', hkl, hk', rfl, hρk, _, _⟩ | ⟨hml, hB', hρm, hnw⟩
    · have := (hs'.bl k B' hk').on (ν := g) (ρ := ρ2) (N := (plug ν σ σ0 σ').length) hon
      rwa [hρk] at this
    · rw [hρm]
      refine ((hs.bl m B hB').ext (N' := (plug ν σ σ0 σ').length) (ρ' := ρ2) (by rw [hlen]; omega) (fun n hn => hρ2o n hn)).heap fun hd => ?_
      have hlt := hs.lt hB' hd
      rw [Array.getElem?_eq_getElem hlt]
      exact subFr_kept hs' (stays m B hB' hd hnw) (Array.getElem?_eq_getElem hlt)
  · intro m B0 hB hr
    rcases get m _ hB with ⟨k, B', hkl, hk', hren, hρk, hnro, hgk⟩ | ⟨hml, hB', hρm, hnw⟩
    · obtain ⟨ty', cs', r', rfl, hr'⟩ := liveB B' hnro (by rw [← hren]; exact hr.live)
      obtain ⟨hz1, ho1⟩ := hs'.own k _ hk' hr'
      rw [hρk] at hz1 ho1
      refine ⟨hzn _ hz1, fun m2 B2 hne hB2 hd2 => ?_⟩
      rcases get m2 B2 hB2 with ⟨k2, B2', hkl2, hk2', hren2, hρk2, hnro2, hgk2⟩ | ⟨hml2, hB2', hρm2, hnw2⟩
      · rw [← hρk2]
        obtain ⟨ty2, cs2, r2, rfl, hr2⟩ := liveB B2' hnro2 (by rw [← hren2]; exact hd2)
        refine ho1 k2 _ (fun e => hne ?_) hk2' hr2
        rw [← hgk2, ← hgk, e]
      · rw [hρm2]
        intro heq
        have h3 : (subFr (fun n => pl ρ (ν n)) σ0 w).Z (ρ m2).1 = w.heap[(ρ m2).1]? := by
          simp only [subFr]
          exact if_neg (fun ⟨n, C, h1, h2, h3⟩ => stays m2 B2 hB2' hd2 hnw2 n C h1 h2 h3)
        rw [heq] at h3
        rw [hz1] at h3
        have h4 := hs.lt hB2' hd2
        rw [heq] at h4
        rw [Array.getElem?_eq_getElem h4] at h3
        cases h3
    · obtain ⟨hz1, ho1⟩ := hs.own m _ hB' hr
      rw [hρm]
      refine ⟨hz1, fun m2 B2 hne hB2 hd2 => ?_⟩
      rcases get m2 B2 hB2 with ⟨k2, B2', hkl2, hk2', hren2, hρk2, hnro2, hgk2⟩ | ⟨hml2, hB2', hρm2, hnw2⟩
      · obtain ⟨ty2, cs2, r2, rfl, hr2⟩ := liveB B2' hnro2 (by rw [← hren2]; exact hd2)
        obtain ⟨hz2, _⟩ := hs'.own k2 _ hk2' hr2
        rw [hρk2] at hz2
        intro heq
        have h3 : (subFr (fun n => pl ρ (ν n)) σ0 w).Z (ρ m).1 = w.heap[(ρ m).1]? := by
          simp only [subFr]
          exact if_neg (fun ⟨n, C, h1, h2, h3⟩ => stays m _ hB' hr.live hnw n C h1 h2 h3)
        rw [← heq, hz2] at h3
        have h4 := hs.lt hB' hr.live
        rw [← heq] at h4
        rw [Array.getElem?_eq_getElem h4] at h3
        cases h3
      · rw [hρm2]
        exact ho1 m2 B2 hne hB2' hd2
end
end Go.Abs
/- A function's call out of its checked lowered code, in one step. -/
namespace Go.Abs
set_option linter.unusedVariables false
def chkF (P : Program) (fn : Func) (nt : Nat) (lc : LC) (rs : List RV) : Bool :=
  fn.ntmps == nt && !(fn.name == "runtime.NumGoroutine") && (match fn.body with
  | some code => chkC P nt code lc
  | none => false) && chkR P fn.results.toList rs
theorem call_fn {P : Program} (hm : P.follows .mixedOrders = true) {f : FuncId} {fn : Func} {nt : Nat} {lc : LC} {rs : List RV} (hf : P.funcs[f]? = some fn) (hc : chkF P fn nt lc rs = true) {args : List AV} {σ : List AB} {K : AV → List AB → Prop}
    (hn : args.length ≤ nt) (hw : wpC P σ.length nt lc (retP σ.length rs K) ⟨initT 0 args, σ⟩) : CallWp P f args σ K := by
  simp only [chkF, Bool.and_eq_true, beq_iff_eq, Bool.not_eq_true'] at hc
  obtain ⟨⟨⟨h1, h2⟩, h3⟩, h4⟩ := hc
  subst h1
  split at h3
  · rename_i code hb
    exact call_ok hm hf hb h2 h3 h4 hn hw
  · cases h3
end Go.Abs
/- Words for proofs over the abstract heap: loops, calls whose arguments are read, rows of values. -/
namespace Go.Abs
universe u
set_option linter.unusedVariables false
set_option linter.unusedSimpArgs false
/-! ### what is asked grows with what is wanted -/
theorem wpI_mono {P : Program} : ∀ {l : List LI} {s : St} {K1 K2 : St → Prop}, (∀ s, K1 s → K2 s) → wpI P l s K1 → wpI P l s K2
  | [], _, _, _, h, hw => h _ hw
  | c :: l, s, K1, K2, h, hw => by
    simp only [wpI] at hw ⊢
    split at hw
    · exact wpO_mono (fun v σ hv => wpI_mono h hv) hw
    · split at hw
      · exact ⟨fun e => wpO_mono (fun v σ hv => wpI_mono h hv) (hw.1 e), fun e => wpI_mono h (hw.2 e)⟩
      · exact wpI_mono h hw
      · exact hw.elim
theorem wpP_mono {P : Program} {o : LO} {s : St} {K1 K2 : AV → Prop} (h : ∀ v, K1 v → K2 v) (hw : wpP P o s K1) : wpP P o s K2 := by
  cases o
  case call f l =>
    simp only [wpP] at hw ⊢
    split at hw
    · obtain ⟨hd, v, h1, h2⟩ := hw
      exact ⟨hd, v, h1, h v h2⟩
    · exact hw.elim
  all_goals
    simp only [wpP] at hw ⊢
    exact ⟨hw.1, wpO_mono (fun v _ hv => h v hv) hw.2⟩
theorem wpQ_mono {P : Program} : ∀ {h : Nat} {l : List LI} {s : St} {K1 K2 : List LI → St → Prop}, (∀ l s, K1 l s → K2 l s) → wpQ P h l s K1 → wpQ P h l s K2
  | 0, _, _, _, _, hk, hw => hk _ _ hw
  | _ + 1, [], _, _, _, _, hw => hw.elim
  | h + 1, c :: r, s, K1, K2, hk, hw => by
    simp only [wpQ] at hw ⊢
    split at hw
    · exact wpP_mono (fun v hv => wpQ_mono hk hv) hw
    · split at hw
      · exact ⟨fun e => wpP_mono (fun v hv => wpQ_mono hk hv) (hw.1 e), fun e => wpQ_mono hk (hw.2 e)⟩
      · exact wpQ_mono hk hw
      · exact hw.elim
theorem wpF_mono {P : Program} {l : List LI} {s : St} {K1 K2 : St → Prop} (h : ∀ s, K1 s → K2 s) (hw : wpF P l s K1) : wpF P l s K2 := wpQ_mono (fun _ s hs => h s hs) hw
theorem wpPlan_mono {P : Program} : ∀ {p : Plan} {s : St} {K1 K2 : St → Prop}, (∀ s, K1 s → K2 s) → wpPlan P p s K1 → wpPlan P p s K2
  | .fin, _, _, _, h, hw => h _ hw
  | .alt p q, _, _, _, h, hw => ⟨wpPlan_mono h hw.1, wpPlan_mono h hw.2⟩
  | .one i c pend ix cs p, s, K1, K2, h, hw => by
    simp only [wpPlan] at hw ⊢
    split at hw
    · exact wpO_mono (fun v σ hv => ⟨hv.1, wpF_mono (fun s hs => wpPlan_mono h hs) hv.2⟩) hw
    · split at hw
      · exact ⟨fun e => wpO_mono (fun v σ hv => ⟨hv.1, wpF_mono (fun s hs => wpPlan_mono h hs) hv.2⟩) (hw.1 e), fun e => ⟨(hw.2 e).1, wpF_mono (fun s hs => wpPlan_mono h hs) (hw.2 e).2⟩⟩
      · exact ⟨hw.1, wpF_mono (fun s hs => wpPlan_mono h hs) hw.2⟩
      · exact hw.elim
theorem wpC_mono {P : Program} {L0 nt : Nat} : ∀ {c : LC} {Q1 Q2 : Exit → St → Prop} {s : St}, (∀ e s, Q1 e s → Q2 e s) → wpC P L0 nt c Q1 s → wpC P L0 nt c Q2 s := by
  intro c
  induction c with
  | skip => intro Q1 Q2 s h hw; exact h _ _ hw
  | seq a b iha ihb =>
    intro Q1 Q2 s h hw
    simp only [wpC] at hw ⊢
    refine iha (fun e s' hh => ?_) hw
    cases e with
    | normal => exact ihb h hh
    | _ => exact h _ _ hh
  | cond c a b iha ihb =>
    intro Q1 Q2 s h hw
    simp only [wpC] at hw ⊢
    split at hw
    · exact ⟨fun e => iha h (hw.1 e), fun e => ihb h (hw.2 e)⟩
    · exact hw.elim
  | block id c ih =>
    intro Q1 Q2 s h hw
    simp only [wpC] at hw ⊢
    refine ih (fun e s' hh => ?_) hw
    cases e with
    | exit id' =>
      simp only at hh ⊢
      split
      · rename_i e; rw [if_pos e] at hh; exact h _ _ hh
      · rename_i e; rw [if_neg e] at hh; exact h _ _ hh
    | _ => exact h _ _ hh
  | loop c ih =>
    intro Q1 Q2 s h hw
    simp only [wpC] at hw ⊢
    obtain ⟨I, μ, h0, hr⟩ := hw
    refine ⟨I, μ, h0, fun s' hI => ih (fun e s'' hh => ?_) (hr s' hI)⟩
    cases e with
    | normal => exact hh
    | _ => exact h _ _ hh
  | exit id => intro Q1 Q2 s h hw; exact h _ _ hw
  | ret => intro Q1 Q2 s h hw; exact h _ _ hw
  | ops l => intro Q1 Q2 s h hw; exact wpI_mono (fun s hs => h _ _ hs) hw
  | draw k l => intro Q1 Q2 s h hw; exact wpQ_mono (fun l s hs => wpI_mono (fun s hs => h _ _ hs) hs) hw
  | cut c ih => intro Q1 Q2 s h hw; obtain ⟨s1, h1, h2⟩ := hw; exact ⟨s1, h1, ih h h2⟩
  | plan ix cs p => intro Q1 Q2 s h hw; exact wpF_mono (fun s hs => wpPlan_mono (fun s hs => h _ _ hs) hs) hw
/-! ### loops -/
theorem loop_intro {P : Program} {L0 nt : Nat} {c : LC} {Q : Exit → St → Prop} {s : St} {ι : Type} (Θ : ι → St) (J : ι → Prop) (μ : ι → Nat) (i0 : ι) (h0 : J i0) (hW : Wk L0 nt s (Θ i0))
    (step : ∀ i, J i → wpC P L0 nt c (fun e s'' => match e with | .normal => ∃ i', (J i' ∧ μ i' < μ i) ∧ Wk L0 nt s'' (Θ i') | e => Q e s'') (Θ i)) : wpC P L0 nt (.loop c) Q s := by
  let p : St → Nat → Prop := fun s n => ∃ i, J i ∧ s = Θ i ∧ μ i = n
  have hex : ∀ s, (∃ n, p s n) → ∃ n, p s n ∧ ∀ m, p s m → n ≤ m := fun s h => least h
  let μ' : St → Nat := fun s => open Classical in if h : ∃ n, p s n then Classical.choose (hex s h) else 0
  have hμ : ∀ s, (∃ n, p s n) → p s (μ' s) ∧ ∀ m, p s m → μ' s ≤ m := by
    intro s h
    have : μ' s = Classical.choose (hex s h) := by simp only [μ']; exact dif_pos h
    rw [this]
    exact Classical.choose_spec (hex s h)
  simp only [wpC]
  refine ⟨fun s => ∃ n, p s n, μ', ⟨Θ i0, hW, μ i0, i0, h0, rfl, rfl⟩, fun s' hs' => ?_⟩
  obtain ⟨⟨i, hi, rfl, hm⟩, _⟩ := hμ s' hs'
  rw [← hm]
  refine wpC_mono ?_ (step i hi)
  intro e s'' h
  cases e with
  | normal =>
    obtain ⟨i', ⟨hj, hlt⟩, hw⟩ := h
    refine ⟨Θ i', hw, ⟨μ i', i', hj, rfl, rfl⟩, ?_⟩
    have := (hμ (Θ i') ⟨μ i', i', hj, rfl, rfl⟩).2 (μ i') ⟨i', hj, rfl, rfl⟩
    omega
  | _ => exact h
theorem loop_count {P : Program} {L0 nt : Nat} {c : LC} {Q : Exit → St → Prop} {s : St} (n : Nat) (Θ : Nat → St) (J : Nat → Prop) (h0 : J 0) (hW : Wk L0 nt s (Θ 0))
    (step : ∀ k, k ≤ n → J k → wpC P L0 nt c (fun e s'' => match e with | .normal => (k < n ∧ J (k + 1)) ∧ Wk L0 nt s'' (Θ (k + 1)) | e => Q e s'') (Θ k)) : wpC P L0 nt (.loop c) Q s := by
  refine loop_intro Θ (fun k => k ≤ n ∧ J k) (fun k => n - k) 0 ⟨Nat.zero_le _, h0⟩ hW fun k hk => ?_
  refine wpC_mono ?_ (step k hk.1 hk.2)
  intro e s'' h
  cases e with
  | normal => obtain ⟨⟨h1, h2⟩, h3⟩ := h; exact ⟨k + 1, ⟨⟨h1, h2⟩, by omega⟩, h3⟩
  | _ => exact h
theorem seq_cut {P : Program} {L0 nt : Nat} {a b : LC} {Q : Exit → St → Prop} {s : St} (R : St → Prop)
    (ha : wpC P L0 nt a (fun e s' => match e with | .normal => R s' | e => Q e s') s) (hb : ∀ s', R s' → wpC P L0 nt b Q s') : wpC P L0 nt (.seq a b) Q s := by
  simp only [wpC]
  refine wpC_mono ?_ ha
  intro e s' h
  cases e with
  | normal => exact hb s' h
  | _ => exact h
def kJ (L0 nt : Nat) {ι : Type} (Θ : ι → St) (J : ι → Prop) (Q : Exit → St → Prop) : Exit → St → Prop := fun e s' => match e with | .normal => ∃ i, J i ∧ Wk L0 nt s' (Θ i) | e => Q e s'
theorem seq_join {P : Program} {L0 nt : Nat} {a b : LC} {Q : Exit → St → Prop} {s : St} {ι : Type} (Θ : ι → St) (J : ι → Prop) (ha : wpC P L0 nt a (kJ L0 nt Θ J Q) s) (hb : ∀ i, J i → wpC P L0 nt b Q (Θ i)) : wpC P L0 nt (.join a b) Q s := by
  unfold LC.join
  refine seq_cut (fun s' => ∃ i, J i ∧ Wk L0 nt s' (Θ i)) (wpC_mono (fun e s' h => ?_) ha) ?_
  · cases e <;> exact h
  · rintro s' ⟨i, hi, hW⟩
    exact ⟨Θ i, hW, hb i hi⟩
/-! ### the conditions on names, to be reckoned -/
def fitL (ν : Nat → Nat × Nat) (N0 : Nat) (σ : List AB) : Nat → List AB → Prop
  | _, [] => True
  | k, B :: r => FitB ν N0 σ (ν k) B ∧ fitL ν N0 σ (k + 1) r
def fitWL (ν : Nat → Nat × Nat) (N0 : Nat) (σ : List AB) : Nat → List AB → Prop
  | _, [] => True
  | k, B :: r => FitW ν N0 σ (ν k) B ∧ fitWL ν N0 σ (k + 1) r
def sep1 (ν : Nat → Nat × Nat) (n : Nat) : Nat → List AB → Prop
  | _, [] => True
  | k, B :: r => (isDead B = true ∨ k = n ∨ (ν k).1 ≠ (ν n).1) ∧ sep1 ν n (k + 1) r
def sepL (ν : Nat → Nat × Nat) (σ0 : List AB) : Nat → List AB → Prop
  | _, [] => True
  | k, B :: r => (isOw B = true → sep1 ν k 0 σ0) ∧ sepL ν σ0 (k + 1) r
theorem fitL_at {ν : Nat → Nat × Nat} {N0 : Nat} {σ : List AB} : ∀ {r : List AB} {k : Nat}, fitL ν N0 σ k r → ∀ n B, r[n]? = some B → FitB ν N0 σ (ν (k + n)) B
  | [], _, _, n, B, h => by simp at h
  | C :: r, k, hf, 0, B, h => by simp at h; subst h; exact hf.1
  | C :: r, k, hf, n + 1, B, h => by rw [show k + (n + 1) = k + 1 + n from by omega]; exact fitL_at hf.2 n B (by simpa using h)
theorem fitWL_at {ν : Nat → Nat × Nat} {N0 : Nat} {σ : List AB} : ∀ {r : List AB} {k : Nat}, fitWL ν N0 σ k r → ∀ n B, r[n]? = some B → FitW ν N0 σ (ν (k + n)) B
  | [], _, _, n, B, h => by simp at h
  | C :: r, k, hf, 0, B, h => by simp at h; subst h; exact hf.1
  | C :: r, k, hf, n + 1, B, h => by rw [show k + (n + 1) = k + 1 + n from by omega]; exact fitWL_at hf.2 n B (by simpa using h)
theorem sep1_at {ν : Nat → Nat × Nat} {m : Nat} : ∀ {r : List AB} {k : Nat}, sep1 ν m k r → ∀ n B, r[n]? = some B → isDead B = false → k + n ≠ m → (ν (k + n)).1 ≠ (ν m).1
  | [], _, _, n, B, h, _, _ => by simp at h
  | C :: r, k, hf, 0, B, h, hd, hne => by
    simp at h; subst h
    rcases hf.1 with h1 | h1 | h1
    · rw [hd] at h1; cases h1
    · exact absurd h1 hne
    · exact h1
  | C :: r, k, hf, n + 1, B, h, hd, hne => by
    rw [show k + (n + 1) = k + 1 + n from by omega] at hne ⊢; exact sep1_at hf.2 n B (by simpa using h) hd hne
theorem sepL_at {ν : Nat → Nat × Nat} {σ0 : List AB} : ∀ {r : List AB} {k : Nat}, sepL ν σ0 k r → ∀ n B, r[n]? = some B → isOw B = true → sep1 ν (k + n) 0 σ0
  | [], _, _, n, B, h, _ => by simp at h
  | C :: r, k, hf, 0, B, h, hr => by simp at h; subst h; exact hf.1 hr
  | C :: r, k, hf, n + 1, B, h, hr => by rw [show k + (n + 1) = k + 1 + n from by omega]; exact sepL_at hf.2 n B (by simpa using h) hr
theorem Fits.mk' {ν : Nat → Nat × Nat} {σ σ0 : List AB} (h1 : fitL ν σ0.length σ 0 σ0) (h2 : sepL ν σ0 0 σ0) : Fits ν σ σ0 := by
  refine ⟨fun n B hn => by have := fitL_at h1 n B hn; rwa [Nat.zero_add] at this, ?_⟩
  intro n B m B' hn hr hm hd hne
  have h3 := sepL_at h2 n B hn (by cases B <;> first | rfl | cases hr)
  rw [Nat.zero_add] at h3
  have := sep1_at h3 m B' hm hd (by omega)
  rwa [Nat.zero_add] at this
theorem FitsW.mk' {ν : Nat → Nat × Nat} {σ σ0 : List AB} (h1 : fitWL ν σ0.length σ 0 σ0) (h2 : sepL ν σ0 0 σ0) : FitsW ν σ σ0 := by
  refine ⟨fun n B hn => by have := fitWL_at h1 n B hn; rwa [Nat.zero_add] at this, ?_⟩
  intro n B m B' hn hr hm hd hne
  have h3 := sepL_at h2 n B hn hr
  rw [Nat.zero_add] at h3
  have := sep1_at h3 m B' hm hd (by omega)
  rwa [Nat.zero_add] at this
def idL : Nat → List Nat → Prop
  | 0, _ => True
  | n + 1, ν => ν.getD n 0 = n ∧ idL n ν
theorem idL_at : ∀ {L0 : Nat} {ν : List Nat}, idL L0 ν → ∀ n, n < L0 → ν.getD n 0 = n
  | 0, _, _, n, h => by omega
  | L0 + 1, ν, hi, n, h => by
    rcases Nat.lt_or_ge n L0 with h1 | h1
    · exact idL_at hi.2 n h1
    · obtain rfl : n = L0 := by omega
      exact hi.1
def seesT (ν : Nat → Nat × Nat) (T : List (Nat × AV)) (N : Nat) : List (Nat × AV) → Prop
  | [] => True
  | (t, v) :: r => (belowT N v = true ∧ sees ν (look T t) v) ∧ seesT ν T N r
theorem seesT_at {ν : Nat → Nat × Nat} {T : List (Nat × AV)} {N : Nat} : ∀ {r : List (Nat × AV)}, seesT ν T N r → ∀ p ∈ r, belowT N p.2 = true ∧ sees ν (look T p.1) p.2
  | [], _, p, h => by simp at h
  | (t, v) :: r, hs, p, h => by
    rcases List.mem_cons.1 h with rfl | h
    · exact hs.1
    · exact seesT_at hs.2 p h
theorem Wk.by {L0 nt : Nat} {T T1 : List (Nat × AV)} {σ σ1 : List AB} (ν : List Nat) (hL : L0 ≤ σ1.length) (hid : idL L0 ν) (hT : seesT (nat2 ν) T σ1.length T1) (h1 : fitWL (nat2 ν) σ1.length σ 0 σ1) (h2 : sepL (nat2 ν) σ1 0 σ1) : Wk L0 nt ⟨T, σ⟩ ⟨T1, σ1⟩ :=
  Wk.of ν hL (idL_at hid) ⟨seesT_at hT, FitsW.mk' h1 h2⟩
theorem Fin.by {L0 : Nat} {σ : List AB} {v : AV} {K : AV → List AB → Prop} (ν : List Nat) (v1 : AV) (σ1 : List AB) (hL : L0 ≤ σ1.length) (hid : idL L0 ν) (hv : sees (nat2 ν) v v1) (hb : belowT σ1.length v1 = true) (h1 : fitWL (nat2 ν) σ1.length σ 0 σ1) (h2 : sepL (nat2 ν) σ1 0 σ1) (hk : K v1 σ1) : Fin L0 σ v K :=
  Fin.of ν hL (idL_at hid) hv hb (FitsW.mk' h1 h2) hk
/-! ### values without names -/
def flat : AV → Bool
  | .b _ | .i _ _ | .s _ | .pn | .sn | .fnil | .j => true
  | _ => false
theorem renC_flat {ν : Nat → Nat × Nat} {x : AV} (h : flat x = true) : renC ν x = x := by cases x <;> first | rfl | cases h
theorem below_flat {N : Nat} {x : AV} (h : flat x = true) : below N x = true := by cases x <;> first | rfl | cases h
theorem map_flat {ν : Nat → Nat × Nat} {l : List AV} (h : l.all flat = true) : l.map (renC ν) = l := by
  induction l with
  | nil => rfl
  | cons x l ih => simp only [List.all_cons, Bool.and_eq_true] at h; simp [renC_flat h.1, ih h.2]
theorem all_flat {N : Nat} {l : List AV} (h : l.all flat = true) : l.all (below N) = true := by
  rw [List.all_eq_true] at h ⊢; exact fun x hx => below_flat (h x hx)
/-! ### rows of values -/
def encs {α : Type} (f : α → List AV) (L : List α) : List AV := L.flatMap f
theorem encs_cons {α : Type} (f : α → List AV) (x : α) (L : List α) : encs f (x :: L) = f x ++ encs f L := by simp [encs]
theorem encs_append {α : Type} (f : α → List AV) (L R : List α) : encs f (L ++ R) = encs f L ++ encs f R := by simp [encs]
/-- A kind of rows: how many cells an element has, and which. -/
structure Enc (α : Type) where
  f : α → List AV
  k : Nat
  len : ∀ x, (f x).length = k
  flat : ∀ x, (f x).all Abs.flat = true
section
variable {α : Type} (E : Enc α)
def Enc.row (L : List α) : List AV := encs E.f L
theorem Enc.row_append (L R : List α) : E.row (L ++ R) = E.row L ++ E.row R := encs_append _ _ _
theorem Enc.row_one (x : α) : E.row [x] = E.f x := by simp [Enc.row, encs]
theorem Enc.row_length : ∀ L : List α, (E.row L).length = L.length * E.k
  | [] => by simp [Enc.row, encs]
  | x :: L => by
    have := Enc.row_length L
    simp only [Enc.row] at this ⊢
    rw [encs_cons, List.length_append, E.len, this, List.length_cons, Nat.add_mul]; omega
theorem Enc.row_flat : ∀ L : List α, (E.row L).all Abs.flat = true
  | [] => rfl
  | x :: L => by
    have := Enc.row_flat L
    simp only [Enc.row] at this ⊢
    rw [encs_cons, List.all_append, E.flat x, this]; rfl
theorem Enc.win : ∀ (L : List α) (i : Nat) (h : i < L.length), Abs.win (E.row L) (i * E.k) E.k = E.f L[i]
  | x :: L, 0, _ => by
    simp only [Enc.row, encs_cons, Abs.win, Nat.zero_mul, List.drop_zero, List.getElem_cons_zero]
    rw [← E.len x, List.take_left']
    rfl
  | x :: L, i + 1, h => by
    have := Enc.win L i (by simpa using h)
    simp only [Enc.row, encs_cons, Abs.win] at this ⊢
    rw [Nat.add_mul, Nat.one_mul, Nat.add_comm, ← List.drop_drop, ← E.len x, List.drop_left']
    · simpa [E.len] using this
    · rfl
theorem Enc.rd (L : List α) (i j : Nat) (h : i < L.length) (hj : j < E.k) : Abs.rd (E.row L) (i * E.k + j) = Abs.rd (E.f L[i]) j := by
  rw [← E.win L i h]
  simp only [Abs.rd, Abs.win]
  rw [List.getElem?_take, if_pos hj, List.getElem?_drop]
theorem Enc.drop (L : List α) (i : Nat) : (E.row L).drop (i * E.k) = E.row (L.drop i) := by
  induction L generalizing i with
  | nil => simp [Enc.row, encs]
  | cons x L ih =>
    cases i with
    | zero => simp
    | succ i =>
      rw [List.drop_succ_cons, ← ih i]
      simp only [Enc.row, encs_cons]
      rw [Nat.add_mul, Nat.one_mul, Nat.add_comm, ← List.drop_drop, ← E.len x, List.drop_left']
      rfl
theorem Enc.take (L : List α) (i : Nat) : (E.row L).take (i * E.k) = E.row (L.take i) := by
  induction L generalizing i with
  | nil => simp [Enc.row, encs]
  | cons x L ih =>
    cases i with
    | zero => simp [Enc.row, encs]
    | succ i =>
      rw [List.take_succ_cons]
      have := ih i
      simp only [Enc.row, encs_cons] at this ⊢
      rw [Nat.add_mul, Nat.one_mul, ← this, Nat.add_comm, ← E.len x, List.take_append]
      congr 1
      · rw [List.take_of_length_le (by omega)]
      · congr 1; omega
theorem Enc.part (L : List α) (o n : Nat) : Abs.win (E.row L) (o * E.k) (n * E.k) = E.row ((L.drop o).take n) := by
  simp only [Abs.win]
  rw [E.drop, E.take]
theorem mid_eq (A X Y Z : List AV) (a k j : Nat) (hA : A.length = a) (hX : X.length = k) (hY : Y.length = k) :
    (if a ≤ j ∧ j < a + k then X[j - a]? else (A ++ (Y ++ Z))[j]?) = (A ++ (X ++ Z))[j]? := by
  by_cases h1 : j < a
  · rw [if_neg (by omega), List.getElem?_append_left (by omega), List.getElem?_append_left (by omega)]
  · rw [List.getElem?_append_right (l₁ := A) (l₂ := X ++ Z) (by omega), hA]
    by_cases h2 : j - a < k
    · rw [if_pos (by omega), List.getElem?_append_left (by omega)]
    · rw [if_neg (by omega), List.getElem?_append_right (l₁ := A) (by omega), hA, List.getElem?_append_right (l₁ := Y) (by omega), List.getElem?_append_right (l₁ := X) (by omega), hX, hY]
theorem Enc.set (L : List α) (i : Nat) (h : i < L.length) (y : α) : spl (E.row L) (i * E.k) (E.f y) = E.row (L.set i y) := by
  apply List.ext_getElem?
  intro j
  have hfit : i * E.k + (E.f y).length ≤ (E.row L).length := by
    rw [E.row_length L, E.len]
    have : (i + 1) * E.k ≤ L.length * E.k := Nat.mul_le_mul_right _ h
    rw [Nat.add_mul, Nat.one_mul] at this
    exact this
  rw [spl_get _ _ _ _ hfit]
  have hset : E.row (L.set i y) = E.row (L.take i) ++ (E.f y ++ E.row (L.drop (i + 1))) := by
    rw [List.set_eq_take_append_cons_drop, if_pos h, E.row_append]
    simp [Enc.row, encs]
  have hL : E.row L = E.row (L.take i) ++ (E.f L[i] ++ E.row (L.drop (i + 1))) := by
    have e : L = L.take i ++ L[i] :: L.drop (i + 1) := by rw [← List.drop_eq_getElem_cons, List.take_append_drop]
    have e2 : E.row (L.take i ++ L[i] :: L.drop (i + 1)) = E.row (L.take i) ++ (E.f L[i] ++ E.row (L.drop (i + 1))) := by
      rw [E.row_append]
      congr 1
    rw [← e2, ← e]
  have ht : (E.row (L.take i)).length = i * E.k := by rw [E.row_length, List.length_take]; congr 1; omega
  rw [hset, hL, E.len y]
  exact mid_eq _ _ _ _ _ _ _ ht (E.len y) (E.len _)
end
def encInt : Enc Int := ⟨fun n => [.i .i64 n], 1, fun _ => rfl, fun _ => rfl⟩
def encByte : Enc Nat := ⟨fun n => [.i .u8 n], 1, fun _ => rfl, fun _ => rfl⟩
/-! ### a slice that reads -/
def Rd {α : Type} (E : Enc α) (σ : List AB) (v : AV) (L : List α) : Prop :=
  (∃ n o cap cs, v = .sl n o L.length cap ∧ n < σ.length ∧ cellsOf σ n = some cs ∧ o + L.length * E.k ≤ cs.length ∧ win cs o (L.length * E.k) = E.row L) ∨ (v = .sn ∧ L = [] ∧ 0 < σ.length)
theorem Rd.data {α : Type} {E : Enc α} {σ : List AB} {v : AV} {L : List α} (h : Rd E σ v L) : v.data = true := by
  rcases h with ⟨n, o, cap, cs, rfl, _⟩ | ⟨rfl, _⟩ <;> rfl
theorem Rd.app {α : Type} {E : Enc α} {σ τ : List AB} {v : AV} {L : List α} (h : Rd E σ v L) : Rd E (σ ++ τ) v L := by
  rcases h with ⟨n, o, cap, cs, rfl, hn, hc, hle, hw⟩ | ⟨rfl, rfl, h0⟩
  · refine .inl ⟨n, o, cap, cs, rfl, by simp; omega, ?_, hle, hw⟩
    unfold cellsOf at hc ⊢
    rw [List.getElem?_append_left hn]
    exact hc
  · exact .inr ⟨rfl, rfl, by simp; omega⟩
/-! ### calls -/
def flat1 : AV → Bool
  | .agg l => l.all flat
  | x => flat x
theorem flat1_ren {ν : Nat → Nat × Nat} {x : AV} (h : flat1 x = true) : ren1 ν x = x := by
  cases x
  case agg l => simp only [ren1]; rw [map_flat h]
  all_goals first | rfl | cases h
theorem flat1_below {N : Nat} {x : AV} (h : flat1 x = true) : below1 N x = true := by
  cases x
  case agg l => exact all_flat h
  all_goals first | rfl | cases h
theorem flat1_renT {ν : Nat → Nat × Nat} {x : AV} (h : flat1 x = true) : ren ν x = x := by
  cases x
  case tup l => cases h
  all_goals exact flat1_ren (ν := ν) h
theorem seesL_flat1 {ν : Nat → Nat × Nat} : ∀ {l : List AV}, l.all flat1 = true → seesL ν l l
  | [], _ => trivial
  | x :: l, h => by
    simp only [List.all_cons, Bool.and_eq_true] at h
    exact ⟨.inl (flat1_ren h.1).symm, seesL_flat1 h.2⟩
theorem call0 {P : Program} {f : FuncId} {args : List AV} {r : AV} {σ : List AB} {K : AV → List AB → Prop} (h : CallWp P f args [] fun x σ' => x = r ∧ σ' = []) (ha : args.all flat1 = true) (hr : flat1 r = true) (hk : K r σ) : CallWp P f args σ K := by
  refine call_same (ν := fun _ => (0, 0)) (K0 := fun x _ => x = r) h ⟨fun n B hn => by simp at hn, fun n B m B' hn => by simp at hn⟩ (fun n hn => by simp at hn) ?_ (seesL_flat1 ha) ?_
  · rw [List.all_eq_true] at ha ⊢; exact fun x hx => flat1_below (ha x hx)
  · rintro x rfl; rw [flat1_renT hr]; exact hk
/-! ### what the simplifier sees -/
@[congr] theorem CallWp_congr {P : Program} {f : FuncId} {args args' : List AV} {σ σ' : List AB} {K : AV → List AB → Prop} (h1 : args = args') (h2 : σ = σ') : CallWp P f args σ K = CallWp P f args' σ' K := by rw [h1, h2]
@[congr] theorem bc_congr {x y : Bool} {A B : Prop} (h : x = y) : bc x A B = bc y A B := by rw [h]
@[congr] theorem wpC_congr {P : Program} {L0 nt : Nat} {c : LC} {Q : Exit → St → Prop} {s s' : St} (h : s = s') : wpC P L0 nt c Q s = wpC P L0 nt c Q s' := by rw [h]
@[congr] theorem Fin_congr {L0 : Nat} {σ σ' : List AB} {v v' : AV} {K : AV → List AB → Prop} (h1 : σ = σ') (h2 : v = v') : Fin L0 σ v K = Fin L0 σ' v' K := by rw [h1, h2]
/-! The continuations get names, so that the simplifier does not walk into them. States are written out, so that they stay in normal form. -/
def kI (P : Program) (d : Option Nat) (r : List LI) (T : List (Nat × AV)) (K : St → Prop) : AV → List AB → Prop := fun v σ => match d with | some d => wpI P r ⟨(d, v) :: T, σ⟩ K | none => wpI P r ⟨T, σ⟩ K
def kQ (P : Program) (h : Nat) (d : Option Nat) (r : List LI) (T : List (Nat × AV)) (σ : List AB) (K : List LI → St → Prop) : AV → Prop := fun v => match d with | some d => wpQ P h r ⟨(d, v) :: T, σ⟩ K | none => wpQ P h r ⟨T, σ⟩ K
def kS (P : Program) (L0 nt : Nat) (b : LC) (Q : Exit → St → Prop) : Exit → St → Prop := fun e s' => match e with | .normal => wpC P L0 nt b Q s' | e => Q e s'
def kB (id : Nat) (Q : Exit → St → Prop) : Exit → St → Prop := fun e s' => match e with | .exit id' => if id' = id then Q .normal s' else Q (.exit id') s' | e => Q e s'
def kD (P : Program) (Q : Exit → St → Prop) : List LI → St → Prop := fun r s' => wpI P r s' (Q .normal)
/-! No rule here leaves a match to be reckoned by the kernel: every step is a rewriting. -/
theorem same {α : Sort u} {a b : α} (h : a = b) : a = b := h
def onB (v : AV) (f : Bool → Prop) : Prop := match v with | .b x => f x | _ => False
def onG (v : AV) (f : Bool → Prop) (k : Prop) : Prop := match v with | .b x => f x | .tup [] => k | _ => False
def onI (v : AV) (f : IntKind → Int → Prop) : Prop := match v with | .i k x => f k x | _ => False
def onS (v : AV) (f : ByteArray → Prop) : Prop := match v with | .s x => f x | _ => False
def onP (v : AV) (f : Nat → Nat → Prop) : Prop := match v with | .p n o => f n o | _ => False
def onAg (v : AV) (f : List AV → Prop) : Prop := match v with | .agg l => f l | _ => False
def onTu (v : AV) (f : List AV → Prop) : Prop := match v with | .tup l => f l | _ => False
def onFn (v : AV) (f : Nat → List (Nat × Nat) → List (Nat × Nat) → Prop) : Prop := match v with | .fn g a c => f g a c | _ => False
def onC (B : Option AB) (f : List AV → Prop) : Prop := match B with | some (.ro cs) => f cs | some (.rw _ cs _) => f cs | _ => False
def onW (B : Option AB) (f : TypeId → List AV → Nat → Prop) : Prop := match B with | some (.rw ty cs r) => f ty cs r | _ => False
def onO {α : Type} (x : Option α) (f : α → Prop) : Prop := match x with | some x => f x | none => False
def onSl (v : AV) (f : Nat → Nat → Nat → Nat → Prop) (g : Prop) : Prop := match v with | .sl n o l c => f n o l c | .sn => g | _ => False
def onMp (v : AV) (f : Nat → Prop) : Prop := match v with | .mp n => f n | _ => False
def onJ (v : AV) (f : Int → Prop) : Prop := match v with | .i .i64 y => f y | _ => False
def onMb (B : Option AB) (f : Program → TypeId → TypeId → Nat → (Int → Option Int) → Prop) : Prop := match B with | some (.mb P k e c g) => f P k e c g | _ => False
def onNc (v : AV) (K : AV → Prop) : Prop := match v with | .p n o => K (.p n o) | .fn f a c => K (.fn f a c) | _ => False
def onEx (v : AV) (f g : Prop) : Prop := match v with | .ex .nilIface => f | .ex (.iface _ _) => g | _ => False
theorem onEx_nil (f g : Prop) : onEx (.ex .nilIface) f g = f := same rfl
theorem onEx_iface (t : TypeId) (v : Value) (f g : Prop) : onEx (.ex (.iface t v)) f g = g := same rfl
@[congr] theorem onEx_congr {v v' : AV} {f g : Prop} (h : v = v') : onEx v f g = onEx v' f g := by rw [h]
theorem onB_b (x : Bool) (f : Bool → Prop) : onB (.b x) f = f x := same rfl
theorem onG_b (x : Bool) (f : Bool → Prop) (k : Prop) : onG (.b x) f k = f x := same rfl
theorem onG_u (f : Bool → Prop) (k : Prop) : onG (.tup []) f k = k := same rfl
theorem onI_i (k : IntKind) (x : Int) (f : IntKind → Int → Prop) : onI (.i k x) f = f k x := same rfl
theorem onS_s (x : ByteArray) (f : ByteArray → Prop) : onS (.s x) f = f x := same rfl
theorem onP_p (n o : Nat) (f : Nat → Nat → Prop) : onP (.p n o) f = f n o := same rfl
theorem onAg_agg (l : List AV) (f : List AV → Prop) : onAg (.agg l) f = f l := same rfl
theorem onTu_tup (l : List AV) (f : List AV → Prop) : onTu (.tup l) f = f l := same rfl
theorem onFn_fn (g : Nat) (a c : List (Nat × Nat)) (f : Nat → List (Nat × Nat) → List (Nat × Nat) → Prop) : onFn (.fn g a c) f = f g a c := same rfl
theorem onC_ro (cs : List AV) (f : List AV → Prop) : onC (some (.ro cs)) f = f cs := same rfl
theorem onC_rw (ty : TypeId) (cs : List AV) (r : Nat) (f : List AV → Prop) : onC (some (.rw ty cs r)) f = f cs := same rfl
theorem onW_rw (ty : TypeId) (cs : List AV) (r : Nat) (f : TypeId → List AV → Nat → Prop) : onW (some (.rw ty cs r)) f = f ty cs r := same rfl
theorem onO_some {α : Type} (x : α) (f : α → Prop) : onO (some x) f = f x := same rfl
theorem onSl_sl (n o l c : Nat) (f : Nat → Nat → Nat → Nat → Prop) (g : Prop) : onSl (.sl n o l c) f g = f n o l c := same rfl
theorem onSl_sn (f : Nat → Nat → Nat → Nat → Prop) (g : Prop) : onSl .sn f g = g := same rfl
theorem onMp_mp (n : Nat) (f : Nat → Prop) : onMp (.mp n) f = f n := same rfl
theorem onJ_i (y : Int) (f : Int → Prop) : onJ (.i .i64 y) f = f y := same rfl
theorem onMb_mb (P : Program) (k e : TypeId) (c : Nat) (g : Int → Option Int) (f : Program → TypeId → TypeId → Nat → (Int → Option Int) → Prop) : onMb (some (.mb P k e c g)) f = f P k e c g := same rfl
theorem onNc_p (n o : Nat) (K : AV → Prop) : onNc (.p n o) K = K (.p n o) := same rfl
theorem onNc_fn (f : Nat) (a c : List (Nat × Nat)) (K : AV → Prop) : onNc (.fn f a c) K = K (.fn f a c) := same rfl
@[congr] theorem onB_congr {v v' : AV} {f : Bool → Prop} (h : v = v') : onB v f = onB v' f := by rw [h]
@[congr] theorem onG_congr {v v' : AV} {f : Bool → Prop} {k : Prop} (h : v = v') : onG v f k = onG v' f k := by rw [h]
@[congr] theorem onI_congr {v v' : AV} {f : IntKind → Int → Prop} (h : v = v') : onI v f = onI v' f := by rw [h]
@[congr] theorem onS_congr {v v' : AV} {f : ByteArray → Prop} (h : v = v') : onS v f = onS v' f := by rw [h]
@[congr] theorem onP_congr {v v' : AV} {f : Nat → Nat → Prop} (h : v = v') : onP v f = onP v' f := by rw [h]
@[congr] theorem onAg_congr {v v' : AV} {f : List AV → Prop} (h : v = v') : onAg v f = onAg v' f := by rw [h]
@[congr] theorem onTu_congr {v v' : AV} {f : List AV → Prop} (h : v = v') : onTu v f = onTu v' f := by rw [h]
@[congr] theorem onFn_congr {v v' : AV} {f : Nat → List (Nat × Nat) → List (Nat × Nat) → Prop} (h : v = v') : onFn v f = onFn v' f := by rw [h]
@[congr] theorem onC_congr {v v' : Option AB} {f : List AV → Prop} (h : v = v') : onC v f = onC v' f := by rw [h]
@[congr] theorem onW_congr {v v' : Option AB} {f : TypeId → List AV → Nat → Prop} (h : v = v') : onW v f = onW v' f := by rw [h]
@[congr] theorem onO_congr {α : Type} {v v' : Option α} {f : α → Prop} (h : v = v') : onO v f = onO v' f := by rw [h]
@[congr] theorem onSl_congr {v v' : AV} {f : Nat → Nat → Nat → Nat → Prop} {g : Prop} (h : v = v') : onSl v f g = onSl v' f g := by rw [h]
@[congr] theorem onNc_congr {v v' : AV} {f : AV → Prop} (h : v = v') : onNc v f = onNc v' f := by rw [h]
@[congr] theorem onMp_congr {v v' : AV} {f : Nat → Prop} (h : v = v') : onMp v f = onMp v' f := by rw [h]
@[congr] theorem onJ_congr {v v' : AV} {f : Int → Prop} (h : v = v') : onJ v f = onJ v' f := by rw [h]
@[congr] theorem onMb_congr {B B' : Option AB} {f : Program → TypeId → TypeId → Nat → (Int → Option Int) → Prop} (h : B = B') : onMb B f = onMb B' f := by rw [h]
@[congr] theorem bnd_congr {v v' : Option AV} {d d' : Nat} {f : Nat → Prop} (h : v = v') (h2 : d = d') : bnd v d f = bnd v' d' f := by rw [h, h2]
theorem onC_get {σ : List AB} {n : Nat} (f : List AV → Prop) : (match cellsOf σ n with | some cs => f cs | none => False) = onC σ[n]? f := by
  unfold cellsOf onC
  generalize σ[n]? = B
  cases B with
  | none => rfl
  | some B => cases B <;> rfl
def kF (P : Program) (d : Option Nat) (r : List LI) (T : List (Nat × AV)) (σ : List AB) (K : St → Prop) : AV → Prop := fun v => match d with | some d => wpF P r ⟨(d, v) :: T, σ⟩ K | none => wpF P r ⟨T, σ⟩ K
def kN (P : Program) (p : Plan) (K : St → Prop) : St → Prop := fun s => wpPlan P p s K
def kH (P : Program) (d : Option Nat) (pend : List (Nat × Option Nat × Nat)) (cs : List LI) (p : Plan) (T : List (Nat × AV)) (K : St → Prop) : AV → List AB → Prop := fun v σ =>
  match d with
  | some d => stabs P ((d, v) :: T) σ pend ∧ wpF P cs ⟨(d, v) :: T, σ⟩ (kN P p K)
  | none => stabs P T σ pend ∧ wpF P cs ⟨T, σ⟩ (kN P p K)
def kE (T : List (Nat × AV)) (d : Nat) : AV → List AB → Prop := fun v _ => v = look T d
section
variable {P : Program} {L0 nt : Nat} {Q : Exit → St → Prop} {s : St} {T : List (Nat × AV)} {σ : List AB}
theorem kF_some (d : Nat) (r : List LI) (K : St → Prop) (v : AV) : kF P (some d) r T σ K v = wpF P r ⟨(d, v) :: T, σ⟩ K := same rfl
theorem kF_none (r : List LI) (K : St → Prop) (v : AV) : kF P none r T σ K v = wpF P r ⟨T, σ⟩ K := same rfl
theorem kN_app (p : Plan) (K : St → Prop) : kN P p K s = wpPlan P p s K := same rfl
theorem kH_some (d : Nat) (pend : List (Nat × Option Nat × Nat)) (cs : List LI) (p : Plan) (K : St → Prop) (v : AV) : kH P (some d) pend cs p T K v σ = (stabs P ((d, v) :: T) σ pend ∧ wpF P cs ⟨(d, v) :: T, σ⟩ (kN P p K)) := same rfl
theorem kH_none (pend : List (Nat × Option Nat × Nat)) (cs : List LI) (p : Plan) (K : St → Prop) (v : AV) : kH P none pend cs p T K v σ = (stabs P T σ pend ∧ wpF P cs ⟨T, σ⟩ (kN P p K)) := same rfl
theorem kE_app (d : Nat) (v : AV) : kE T d v σ = (v = look T d) := same rfl
theorem wpF_nil {K : St → Prop} : wpF P [] s K = K s := same rfl
theorem wpF_none {d : Option Nat} {o : LO} {r : List LI} {K : St → Prop} : wpF P (⟨d, none, o⟩ :: r) ⟨T, σ⟩ K = wpP P o ⟨T, σ⟩ (kF P d r T σ K) := by cases d <;> rfl
theorem wpF_some {d : Option Nat} {g : Nat} {b : Bool} {o : LO} {r : List LI} {K : St → Prop} : wpF P (⟨d, some (g, b), o⟩ :: r) ⟨T, σ⟩ K =
    onG (look T g) (fun x => bc (x == b) (wpP P o ⟨(g, .b b) :: T, σ⟩ (kF P d r ((g, .b b) :: T) σ K)) (kF P d r ((g, .b !b) :: T) σ K (.tup []))) (kF P d r T σ K (.tup [])) := by cases d <;> rfl
theorem wpPlan_fin {K : St → Prop} : wpPlan P .fin s K = K s := same rfl
theorem wpPlan_alt {p q : Plan} {K : St → Prop} : wpPlan P (.alt p q) s K = (wpPlan P p s K ∧ wpPlan P q s K) := same rfl
theorem wpPlan_one {i : Nat} {d : Option Nat} {o : LO} {pend : List (Nat × Option Nat × Nat)} {ix : List Nat} {cs : List LI} {p : Plan} {K : St → Prop} : wpPlan P (.one i ⟨d, none, o⟩ pend ix cs p) ⟨T, σ⟩ K = wpO P o ⟨T, σ⟩ (kH P d pend cs p T K) := by cases d <;> rfl
theorem wpPlan_guard {i : Nat} {d : Option Nat} {g : Nat} {b : Bool} {o : LO} {pend : List (Nat × Option Nat × Nat)} {ix : List Nat} {cs : List LI} {p : Plan} {K : St → Prop} : wpPlan P (.one i ⟨d, some (g, b), o⟩ pend ix cs p) ⟨T, σ⟩ K =
    onG (look T g) (fun x => bc (x == b) (wpO P o ⟨(g, .b b) :: T, σ⟩ (kH P d pend cs p ((g, .b b) :: T) K)) (kH P d pend cs p ((g, .b !b) :: T) K (.tup []) σ)) (kH P d pend cs p T K (.tup []) σ) := by cases d <;> rfl
theorem stabs_nil : stabs P T σ [] = True := same rfl
theorem stabs_ld (d t : Nat) (r : List (Nat × Option Nat × Nat)) : stabs P T σ ((d, none, t) :: r) = (wpO P (.ld (.t t)) ⟨T, σ⟩ (kE T d) ∧ stabs P T σ r) := same rfl
theorem stabs_ldn (d t k : Nat) (r : List (Nat × Option Nat × Nat)) : stabs P T σ ((d, some k, t) :: r) = (wpO P (.ldn k (.t t)) ⟨T, σ⟩ (kE T d) ∧ stabs P T σ r) := same rfl
theorem wpC_plan (ix : List Nat) (cs : List LI) (p : Plan) : wpC P L0 nt (.plan ix cs p) Q s = wpF P cs s (kN P p (Q .normal)) := same rfl
theorem kI_some (d : Nat) (r : List LI) (K : St → Prop) (v : AV) (σ : List AB) : kI P (some d) r T K v σ = wpI P r ⟨(d, v) :: T, σ⟩ K := same rfl
theorem kI_none (r : List LI) (K : St → Prop) (v : AV) (σ : List AB) : kI P none r T K v σ = wpI P r ⟨T, σ⟩ K := same rfl
theorem kQ_some (h : Nat) (d : Nat) (r : List LI) (K : List LI → St → Prop) (v : AV) : kQ P h (some d) r T σ K v = wpQ P h r ⟨(d, v) :: T, σ⟩ K := same rfl
theorem kQ_none (h : Nat) (r : List LI) (K : List LI → St → Prop) (v : AV) : kQ P h none r T σ K v = wpQ P h r ⟨T, σ⟩ K := same rfl
theorem kJ_ret {ι : Type} (Θ : ι → St) (J : ι → Prop) : kJ L0 nt Θ J Q .ret s = Q .ret s := same rfl
theorem kJ_exit {ι : Type} (Θ : ι → St) (J : ι → Prop) (id : Nat) : kJ L0 nt Θ J Q (.exit id) s = Q (.exit id) s := same rfl
theorem kS_normal (b : LC) : kS P L0 nt b Q .normal s = wpC P L0 nt b Q s := same rfl
theorem kS_ret (b : LC) : kS P L0 nt b Q .ret s = Q .ret s := same rfl
theorem kS_exit (b : LC) (id : Nat) : kS P L0 nt b Q (.exit id) s = Q (.exit id) s := same rfl
theorem kB_normal (id : Nat) : kB id Q .normal s = Q .normal s := same rfl
theorem kB_ret (id : Nat) : kB id Q .ret s = Q .ret s := same rfl
theorem kB_exit (id id' : Nat) : kB id Q (.exit id') s = if id' = id then Q .normal s else Q (.exit id') s := same rfl
theorem kD_app (r : List LI) : kD P Q r s = wpI P r s (Q .normal) := same rfl
theorem wpC_skip : wpC P L0 nt .skip Q s = Q .normal s := same rfl
theorem wpC_seq (a b : LC) : wpC P L0 nt (.seq a b) Q s = wpC P L0 nt a (kS P L0 nt b Q) s := same rfl
theorem wpC_cond (c : X) (a b : LC) : wpC P L0 nt (.cond c a b) Q ⟨T, σ⟩ = onB (ev T c) fun x => bc x (wpC P L0 nt a Q ⟨T, σ⟩) (wpC P L0 nt b Q ⟨T, σ⟩) := same rfl
theorem wpC_block (id : Nat) (c : LC) : wpC P L0 nt (.block id c) Q s = wpC P L0 nt c (kB id Q) s := same rfl
theorem wpC_exit (id : Nat) : wpC P L0 nt (.exit id) Q s = Q (.exit id) s := same rfl
theorem wpC_ret : wpC P L0 nt .ret Q s = Q .ret s := same rfl
theorem wpC_ops (l : List LI) : wpC P L0 nt (.ops l) Q s = wpI P l s (Q .normal) := same rfl
theorem wpC_draw (h : Nat) (l : List LI) : wpC P L0 nt (.draw h l) Q s = wpQ P h l s (kD P Q) := same rfl
theorem wpI_nil {K : St → Prop} : wpI P [] s K = K s := same rfl
theorem wpI_none {d : Option Nat} {o : LO} {r : List LI} {K : St → Prop} : wpI P (⟨d, none, o⟩ :: r) ⟨T, σ⟩ K = wpO P o ⟨T, σ⟩ (kI P d r T K) := by cases d <;> rfl
theorem wpI_some {d : Option Nat} {g : Nat} {b : Bool} {o : LO} {r : List LI} {K : St → Prop} : wpI P (⟨d, some (g, b), o⟩ :: r) ⟨T, σ⟩ K =
    onG (look T g) (fun x => bc (x == b) (wpO P o ⟨(g, .b b) :: T, σ⟩ (kI P d r ((g, .b b) :: T) K)) (kI P d r ((g, .b !b) :: T) K (.tup []) σ)) (kI P d r T K (.tup []) σ) := by cases d <;> rfl
theorem wpQ_zero {l : List LI} {K : List LI → St → Prop} : wpQ P 0 l s K = K l s := by cases l <;> rfl
theorem wpQ_none {h : Nat} {d : Option Nat} {o : LO} {r : List LI} {K : List LI → St → Prop} : wpQ P (h + 1) (⟨d, none, o⟩ :: r) ⟨T, σ⟩ K = wpP P o ⟨T, σ⟩ (kQ P h d r T σ K) := by cases d <;> rfl
theorem wpQ_some {h : Nat} {d : Option Nat} {g : Nat} {b : Bool} {o : LO} {r : List LI} {K : List LI → St → Prop} : wpQ P (h + 1) (⟨d, some (g, b), o⟩ :: r) ⟨T, σ⟩ K =
    onG (look T g) (fun x => bc (x == b) (wpP P o ⟨(g, .b b) :: T, σ⟩ (kQ P h d r ((g, .b b) :: T) σ K)) (kQ P h d r ((g, .b !b) :: T) σ K (.tup []))) (kQ P h d r T σ K (.tup [])) := by cases d <;> rfl
theorem look_cons (d t : Nat) (v : AV) (r : List (Nat × AV)) : look ((d, v) :: r) t = if d = t then v else look r t := same rfl
theorem look_nil (t : Nat) : look [] t = .j := same rfl
theorem ev_t (n : Nat) : ev T (.t n) = look T n := same rfl
theorem ev_k (v : AV) : ev T (.k v) = v := same rfl
theorem rd_zero (x : AV) (l : List AV) : rd (x :: l) 0 = x := same rfl
theorem rd_succ (x : AV) (l : List AV) (n : Nat) : rd (x :: l) (n + 1) = rd l n := by simp [rd]
variable {K : AV → List AB → Prop}
theorem wpO_mv (x : X) : wpO P (.mv x) ⟨T, σ⟩ K = K (ev T x) σ := same rfl
theorem wpO_pick (c a b : X) : wpO P (.pick c a b) ⟨T, σ⟩ K = onB (ev T c) fun t => bc t (K (ev T a) σ) (K (ev T b) σ) := same rfl
theorem wpO_bin (op : BinOp) (x y : X) : wpO P (.bin op x y) ⟨T, σ⟩ K = onI (ev T x) fun k a => onI (ev T y) fun k' b => k = k' ∧ ibin op k a b fun v => K v σ := by
  simp only [wpO, onI]; generalize ev T x = a; generalize ev T y = c; cases a <;> cases c <;> rfl
theorem wpO_beq (neg : Bool) (x y : X) : wpO P (.beq neg x y) ⟨T, σ⟩ K = onB (ev T x) fun a => onB (ev T y) fun c => K (.b (if neg then decide (a ≠ c) else decide (a = c))) σ := by
  simp only [wpO, onB]; generalize ev T x = a; generalize ev T y = c; cases a <;> cases c <;> rfl
theorem wpO_aeq (neg : Bool) (q : List Bool) (x y : X) : wpO P (.aeq neg q x y) ⟨T, σ⟩ K = onAg (ev T x) fun a => onAg (ev T y) fun c => aeqOk q a c ∧ K (.b (if neg then !(Abs.aeq a c) else Abs.aeq a c)) σ := by
  simp only [wpO, onAg]; generalize ev T x = a; generalize ev T y = c; cases a <;> cases c <;> rfl
theorem wpO_not (x : X) : wpO P (.not x) ⟨T, σ⟩ K = onB (ev T x) fun a => K (.b (!a)) σ := same rfl
theorem wpO_neg (x : X) : wpO P (.neg x) ⟨T, σ⟩ K = onI (ev T x) fun k a => fits k (-a) ∧ K (.i k (-a)) σ := same rfl
theorem wpO_ld (x : X) : wpO P (.ld x) ⟨T, σ⟩ K = onP (ev T x) fun n o => onC σ[n]? fun cs => o < cs.length ∧ K (rd cs o) σ := by
  simp only [wpO, onP]; generalize ev T x = a; cases a <;> first | rfl | exact onC_get _
theorem wpO_ldn (k : Nat) (x : X) : wpO P (.ldn k x) ⟨T, σ⟩ K = onP (ev T x) fun n o => onC σ[n]? fun cs => o + k ≤ cs.length ∧ K (.agg (win cs o k)) σ := by
  simp only [wpO, onP]; generalize ev T x = a; cases a <;> first | rfl | exact onC_get _
theorem wpO_st (k : Nat) (a x : X) : wpO P (.st k a x) ⟨T, σ⟩ K = onP (ev T a) fun n o => onW σ[n]? fun ty cs r => (ev T x).data = true ∧ (ev T x).cl.length = k ∧ o + k ≤ cs.length ∧ K .j (σ.set n (.rw ty (spl cs o (ev T x).cl) r)) := same rfl
theorem wpO_fa (d : Nat) (x : X) : wpO P (.fa d x) ⟨T, σ⟩ K = onP (ev T x) fun n o => K (.p n (o + d)) σ := same rfl
theorem wpO_ia (sz : Nat) (x i : X) : wpO P (.ia sz x i) ⟨T, σ⟩ K = onSl (ev T x) (fun n o len _ => onI (ev T i) fun _ j => (0 ≤ j ∧ j < len) ∧ K (.p n (o + j.toNat * sz)) σ) False := by
  simp only [wpO, onSl, onI]; generalize ev T x = a; generalize ev T i = c; cases a <;> cases c <;> rfl
theorem wpO_fld (d : Nat) (x : X) : wpO P (.fld d x) ⟨T, σ⟩ K = onAg (ev T x) fun l => d < l.length ∧ K (rd l d) σ := same rfl
theorem wpO_box (ty : TypeId) (x : X) : wpO P (.box ty x) ⟨T, σ⟩ K = ((ev T x).data = true ∧ K (.p σ.length 0) (σ ++ [.rw ty (ev T x).cl (ev T x).cl.length])) := same rfl
theorem wpO_alloc (ty : TypeId) (z : List AV) : wpO P (.alloc ty z) ⟨T, σ⟩ K = K (.p σ.length 0) (σ ++ [.rw ty z z.length]) := same rfl
theorem wpO_build (z : List AV) (parts : List (Nat × Nat × X)) : wpO P (.build z parts) ⟨T, σ⟩ K = fillP T z parts fun cs => K (.agg cs) σ := same rfl
theorem wpO_bsl (ty : TypeId) (z : List AV) (n : Nat) (parts : List (Nat × Nat × X)) : wpO P (.bsl ty z n parts) ⟨T, σ⟩ K = fillP T (rep n z) parts fun cs => K (.sl σ.length 0 n n) (σ ++ [.rw ty cs (n * z.length)]) := same rfl
theorem wpO_msl (ty : TypeId) (bytes : Nat) (z : List AV) (l : X) : wpO P (.msl ty bytes z l) ⟨T, σ⟩ K = onI (ev T l) fun _ n => (0 ≤ n ∧ (bytes : Int) * n ≤ 281474976710656) ∧ K (.sl σ.length 0 n.toNat n.toNat) (σ ++ [.rw ty (rep n.toNat z) (n.toNat * z.length)]) := same rfl
theorem wpO_len (x : X) : wpO P (.len x) ⟨T, σ⟩ K = onSl (ev T x) (fun _ _ n _ => K (.i .i64 n) σ) (K (.i .i64 0) σ) := same rfl
theorem wpO_slen (x : X) : wpO P (.slen x) ⟨T, σ⟩ K = onS (ev T x) fun b => K (.i .i64 b.size) σ := same rfl
theorem wpO_snil (x : X) : wpO P (.snil x) ⟨T, σ⟩ K = onSl (ev T x) (fun _ _ len cap => (len = 0 → cap = 0 → K (.b true) σ) ∧ K (.b false) σ) (K (.b true) σ) := same rfl
theorem wpO_mn (x y : X) : wpO P (.mn x y) ⟨T, σ⟩ K = onI (ev T x) fun k a => onI (ev T y) fun _ c => K (.i k (if c < a then c else a)) σ := by
  simp only [wpO, onI]; generalize ev T x = a; generalize ev T y = c; cases a <;> cases c <;> rfl
theorem wpO_mx (x y : X) : wpO P (.mx x y) ⟨T, σ⟩ K = onI (ev T x) fun k a => onI (ev T y) fun _ c => K (.i k (if a < c then c else a)) σ := by
  simp only [wpO, onI]; generalize ev T x = a; generalize ev T y = c; cases a <;> cases c <;> rfl
theorem wpO_call (f : X) (args : List X) : wpO P (.call f args) ⟨T, σ⟩ K = onFn (ev T f) fun g a c => (args.map (ev T)).all AV.data = true ∧ CallWp P g (pAV a ++ args.map (ev T) ++ pAV c) σ K := same rfl
theorem wpO_mkf (f : Nat) (a c : List X) : wpO P (.mkf f a c) ⟨T, σ⟩ K = onO (toPs T a) fun a => onO (toPs T c) fun c => K (.fn f a c) σ := by
  simp only [wpO, onO]; generalize toPs T a = a; generalize toPs T c = c; cases a <;> cases c <;> rfl
theorem wpO_ext (i : Nat) (x : X) : wpO P (.ext i x) ⟨T, σ⟩ K = onTu (ev T x) fun l => i < l.length ∧ K (rd l i) σ := same rfl
theorem wpO_conv (k : IntKind) (x : X) : wpO P (.conv k x) ⟨T, σ⟩ K = onI (ev T x) fun _ n => fits k n ∧ K (.i k n) σ := same rfl
theorem wpO_nilc (x : X) : wpO P (.nilc x) ⟨T, σ⟩ K = onNc (ev T x) fun v => K v σ := same rfl
theorem wpO_mkm (k e : TypeId) : wpO P (.mkm k e) ⟨T, σ⟩ K = K (.mp σ.length) (σ ++ [.mb P k e 0 fun _ => none]) := same rfl
theorem wpO_lk (k e : TypeId) (m x : X) : wpO P (.lk k e m x) ⟨T, σ⟩ K = onMp (ev T m) fun n => onJ (ev T x) fun y => onMb σ[n]? fun P' k' e' _ f => (P' = P ∧ k' = k ∧ e' = e ∧ fits .i64 y) ∧ K (.tup [.i .i64 ((f y).getD 0), .b (f y).isSome]) σ := by
  simp only [wpO, onMp, onJ, onMb]; generalize ev T m = a; generalize ev T x = c; cases a <;> try rfl
  cases c <;> try rfl
  rename_i q _; cases q <;> rfl
theorem wpO_mup (k e : TypeId) (m x v : X) : wpO P (.mup k e m x v) ⟨T, σ⟩ K = onMp (ev T m) fun n => onJ (ev T x) fun y => onJ (ev T v) fun z => onMb σ[n]? fun P' k' e' c f => (P' = P ∧ k' = k ∧ e' = e ∧ fits .i64 y ∧ fits .i64 z ∧ c < 1099511627776) ∧ K .j (σ.set n (.mb P k e (c + 1) fun u => if u = y then some z else f u)) := by
  simp only [wpO, onMp, onJ, onMb]; generalize ev T m = a; generalize ev T x = c; generalize ev T v = d; cases a <;> try rfl
  cases c <;> try rfl
  rename_i q _; cases q <;> try rfl
  cases d <;> try rfl
  rename_i q _; cases q <;> rfl
theorem wpO_die : wpO P .die ⟨T, σ⟩ K = False := same rfl
theorem wpO_shr (x y : X) : wpO P (.shr x y) ⟨T, σ⟩ K = onI (ev T x) fun k a => onI (ev T y) fun _ b => (k = .u64 ∧ shrOk b ∧ 0 ≤ a) ∧ K (.i k (shrv b a)) σ := by
  simp only [wpO, onI]; generalize ev T x = a; generalize ev T y = c; cases a <;> cases c <;> rfl
theorem wpO_api (ty : TypeId) (x y : X) : wpO P (.api ty x y) ⟨T, σ⟩ K = onSl (ev T x) (fun nx ox len cap => onSl (ev T y) (fun n o m _ => onW σ[nx]? fun ty' old r => onC σ[n]? fun cs => (ty' = ty ∧ ox = 0 ∧ len + m ≤ cap ∧ r = cap ∧ len + m ≤ old.length ∧ o + m ≤ cs.length) ∧ K (.sl nx 0 (len + m) cap) (σ.set nx (.rw ty (spl old len (win cs o m)) r))) False) False := by
  simp only [wpO, onSl]; generalize ev T x = a; generalize ev T y = c
  cases a <;> cases c <;> first | rfl | skip
  rename_i n1 o1 l1 c1 n2 o2 l2 c2
  simp only [onW, onC, cellsOf]
  generalize σ[n1]? = A; generalize σ[n2]? = B
  rcases A with _ | (_ | _ | _ | _) <;> rcases B with _ | (_ | _ | _ | _) <;> rfl
theorem wpO_clr (x : X) : wpO P (.clr x) ⟨T, σ⟩ K = onSl (ev T x) (fun n o len _ => onW σ[n]? fun ty cs r => o + len ≤ cs.length ∧ K (.tup []) (σ.set n (.rw ty (spl cs o (List.replicate len (.i .i64 0))) r))) False := by
  simp only [wpO, onSl]; generalize ev T x = a
  cases a <;> rfl
theorem wpO_sadd (x y : X) : wpO P (.sadd x y) ⟨T, σ⟩ K = onS (ev T x) fun a => onS (ev T y) fun b => a.size + b.size ≤ 9223372036854775807 ∧ K (.s (a ++ b)) σ := by
  simp only [wpO, onS]; generalize ev T x = a; generalize ev T y = c; cases a <;> cases c <;> rfl
theorem wpO_scmp (neg : Bool) (x y : X) : wpO P (.scmp neg x y) ⟨T, σ⟩ K = onS (ev T x) fun a => onS (ev T y) fun b => K (.b (if neg then decide (a ≠ b) else decide (a = b))) σ := by
  simp only [wpO, onS]; generalize ev T x = a; generalize ev T y = c; cases a <;> cases c <;> rfl
theorem wpO_sidx (x i : X) : wpO P (.sidx x i) ⟨T, σ⟩ K = onS (ev T x) fun a => onI (ev T i) fun _ j => (0 ≤ j ∧ j < a.size) ∧ K (.i .u8 ((a.data.toList.getD j.toNat 0).toNat : Nat)) σ := by
  simp only [wpO, onS, onI]; generalize ev T x = a; generalize ev T i = c; cases a <;> cases c <;> rfl
theorem wpO_sslc (x : X) (lo hi : Option X) : wpO P (.sslc x lo hi) ⟨T, σ⟩ K = onS (ev T x) fun a => bnd (lo.map (ev T)) 0 fun l => bnd (hi.map (ev T)) a.size fun h => (l ≤ h ∧ h ≤ a.size) ∧ K (.s (a.extract l h)) σ := same rfl
theorem wpO_cvb (x : X) : wpO P (.cvb x) ⟨T, σ⟩ K = onSl (ev T x) (fun n o len _ => onC σ[n]? fun cs => (o + len ≤ cs.length ∧ isBy (win cs o len) = true) ∧ K (.s (bs (toBy (win cs o len)))) σ) False := by
  simp only [wpO, onSl]; generalize ev T x = a; cases a <;> first | rfl | exact onC_get _
theorem wpO_inil (neg : Bool) (x : X) : wpO P (.inil neg x) ⟨T, σ⟩ K = onEx (ev T x) (K (.b (!neg)) σ) (K (.b neg) σ) := by
  simp only [wpO, onEx]; generalize ev T x = a; cases a <;> first | rfl | (rename_i v; cases v <;> rfl)
theorem wpO_copy (x y : X) : wpO P (.copy x y) ⟨T, σ⟩ K = onSl (ev T x) (fun nx ox lx _ => onSl (ev T y) (fun n o m _ => onW σ[nx]? fun ty cs r => onC σ[n]? fun cs' => (ox + Nat.min m lx ≤ cs.length ∧ o + Nat.min m lx ≤ cs'.length) ∧ K (.i .i64 (Nat.min m lx)) (σ.set nx (.rw ty (spl cs ox (win cs' o (Nat.min m lx))) r))) False) False := by
  simp only [wpO, onSl]; generalize ev T x = a; generalize ev T y = c
  cases a <;> cases c <;> first | rfl | skip
  rename_i n1 o1 l1 c1 n2 o2 l2 c2
  simp only [onW, onC, cellsOf]
  generalize σ[n1]? = A; generalize σ[n2]? = B
  rcases A with _ | (_ | _ | _ | _) <;> rcases B with _ | (_ | _ | _ | _) <;> rfl
theorem wpO_slc_none (sz : Nat) (x : X) (hi mx : Option X) : wpO P (.slc sz x none hi mx) ⟨T, σ⟩ K = onSl (ev T x) (fun n o len cap => bnd (mx.map (ev T)) cap fun m => bnd (hi.map (ev T)) len fun h => ((hi.isSome = true → h ≤ m ∨ (mx.isSome = false ∧ h ≤ len)) ∧ (mx.isSome = true → m ≤ cap)) ∧ K (.sl n o h m) σ)
    (bnd (mx.map (ev T)) 0 fun m => bnd (hi.map (ev T)) 0 fun h => (h = 0 ∧ m = 0) ∧ K .sn σ) := by
  simp only [wpO, onSl]; generalize ev T x = a; cases a <;> first | rfl | simp [bnd]
theorem wpO_slc_some (sz : Nat) (x lo : X) (hi mx : Option X) : wpO P (.slc sz x (some lo) hi mx) ⟨T, σ⟩ K = onSl (ev T x) (fun n o len cap => bnd (mx.map (ev T)) cap fun m => bnd (hi.map (ev T)) len fun h =>
      bnd (some (ev T lo)) 0 fun l => (l ≤ h ∧ (hi.isSome = true → h ≤ m ∨ (mx.isSome = false ∧ h ≤ len)) ∧ (mx.isSome = true → m ≤ cap)) ∧ (m ≠ l → K (.sl n (o + l * sz) (h - l) (m - l)) σ) ∧ (m = l → K (.sl n o (h - l) (m - l)) σ))
    (bnd (mx.map (ev T)) 0 fun m => bnd (hi.map (ev T)) 0 fun h => bnd (some (ev T lo)) 0 fun l => (l = 0 ∧ h = 0 ∧ m = 0) ∧ K .sn σ) := by
  simp only [wpO, onSl]; generalize ev T x = a; cases a <;> rfl
theorem wpO_app (ty : TypeId) (sz bytes : Nat) (x y : X) : wpO P (.app ty sz bytes x y) ⟨T, σ⟩ K = onSl (ev T y)
    (fun n o m _ => onSl (ev T x)
      (fun nx ox len cap => onW σ[nx]? fun ty' old r => onC σ[n]? fun cs => (ty' = ty ∧ ox = 0 ∧ len * sz ≤ old.length ∧ r = cap * sz ∧ o + m * sz ≤ cs.length ∧ (len + m) * bytes ≤ 140737488355328 ∧ len + m ≤ 140737488355328) ∧
          ∀ cap', len + m ≤ cap' → K (.sl σ.length 0 (len + m) cap') (σ.set nx .dead ++ [.rw ty (old.take (len * sz) ++ win cs o (m * sz)) (cap' * sz)]))
      (onC σ[n]? fun cs => (o + m * sz ≤ cs.length ∧ m * bytes ≤ 140737488355328 ∧ m ≤ 140737488355328) ∧ (m = 0 → K .sn σ) ∧ (0 < m → ∀ cap, m ≤ cap → K (.sl σ.length 0 m cap) (σ ++ [.rw ty (win cs o (m * sz)) (cap * sz)]))))
    (onSl (ev T x) (fun nx ox len cap => len ≤ cap ∧ K (.sl nx ox len cap) σ) (K .sn σ)) := by
  simp only [wpO, onSl]; generalize ev T x = a; generalize ev T y = c
  cases a <;> cases c <;> first | rfl | skip
  · rename_i n1 o1 l1 c1 n2 o2 l2 c2
    simp only [onW, onC, cellsOf]
    generalize σ[n1]? = A; generalize σ[n2]? = B
    rcases A with _ | (_ | _ | _ | _) <;> rcases B with _ | (_ | _ | _ | _) <;> rfl
  · exact onC_get _
theorem wpO_appf (ty : TypeId) (sz bytes : Nat) (x y : X) : wpO P (.appf ty sz bytes x y) ⟨T, σ⟩ K = onSl (ev T x)
    (fun nx ox len cap => onSl (ev T y) (fun n o m _ => onC σ[nx]? fun old => onC σ[n]? fun cs => (ox + len * sz ≤ old.length ∧ len = cap ∧ o + m * sz ≤ cs.length ∧ (len + m) * bytes ≤ 140737488355328 ∧ len + m ≤ 140737488355328) ∧
          (m = 0 → K (.sl nx ox len cap) σ) ∧ (0 < m → ∀ cap', len + m ≤ cap' → K (.sl σ.length 0 (len + m) cap') (σ ++ [.rw ty (win old ox (len * sz) ++ win cs o (m * sz)) (cap' * sz)])))
      (len ≤ cap ∧ K (.sl nx ox len cap) σ))
    (onSl (ev T y) (fun n o m _ => onC σ[n]? fun cs => (o + m * sz ≤ cs.length ∧ m * bytes ≤ 140737488355328 ∧ m ≤ 140737488355328) ∧ (m = 0 → K .sn σ) ∧ (0 < m → ∀ cap, m ≤ cap → K (.sl σ.length 0 m cap) (σ ++ [.rw ty (win cs o (m * sz)) (cap * sz)]))) (K .sn σ)) := by
  simp only [wpO, onSl]; generalize ev T x = a; generalize ev T y = c
  cases a <;> cases c <;> first | rfl | skip
  · rename_i n1 o1 l1 c1 n2 o2 l2 c2
    simp only [onC, cellsOf]
    generalize σ[n1]? = A; generalize σ[n2]? = B
    rcases A with _ | (_ | _ | _ | _) <;> rcases B with _ | (_ | _ | _ | _) <;> rfl
  · exact onC_get _
theorem bnd_none (d : Nat) (K : Nat → Prop) : bnd none d K = K d := same rfl
theorem bnd_some (k : IntKind) (n : Int) (d : Nat) (K : Nat → Prop) : bnd (some (.i k n)) d K = (0 ≤ n ∧ K n.toNat) := same rfl
theorem fillP_nil (z : List AV) (K : List AV → Prop) : fillP T z [] K = K z := same rfl
theorem fillP_cons (z : List AV) (o n : Nat) (x : X) (r : List (Nat × Nat × X)) (K : List AV → Prop) : fillP T z ((o, n, x) :: r) K = (((ev T x).data = true ∧ (ev T x).cl.length = n ∧ o + n ≤ z.length) ∧ fillP T (spl z o (ev T x).cl) r K) := same rfl
theorem toPs_nil : toPs T [] = some [] := same rfl
theorem toPs_cons (x : X) (l : List X) : toPs T (x :: l) = (toP (ev T x)).bind fun y => (toPs T l).map fun r => y :: r := same rfl
theorem toP_p (n o : Nat) : toP (.p n o) = some (n, o) := same rfl
theorem pAV_nil : pAV [] = [] := same rfl
theorem pAV_cons (n o : Nat) (l : List (Nat × Nat)) : pAV ((n, o) :: l) = .p n o :: pAV l := same rfl
theorem data_b (x : Bool) : AV.data (.b x) = true := same rfl
theorem data_i (k : IntKind) (x : Int) : AV.data (.i k x) = true := same rfl
theorem data_s (x : ByteArray) : AV.data (.s x) = true := same rfl
theorem data_p (n o : Nat) : AV.data (.p n o) = true := same rfl
theorem data_pn : AV.data .pn = true := same rfl
theorem data_sl (n o l c : Nat) : AV.data (.sl n o l c) = true := same rfl
theorem data_sn : AV.data .sn = true := same rfl
theorem data_fn (f : Nat) (a c : List (Nat × Nat)) : AV.data (.fn f a c) = true := same rfl
theorem data_fnil : AV.data .fnil = true := same rfl
theorem data_mp (n : Nat) : AV.data (.mp n) = true := same rfl
theorem data_agg (l : List AV) : AV.data (.agg l) = true := same rfl
theorem cl_b (x : Bool) : AV.cl (.b x) = [.b x] := same rfl
theorem cl_i (k : IntKind) (x : Int) : AV.cl (.i k x) = [.i k x] := same rfl
theorem cl_s (x : ByteArray) : AV.cl (.s x) = [.s x] := same rfl
theorem cl_p (n o : Nat) : AV.cl (.p n o) = [.p n o] := same rfl
theorem cl_pn : AV.cl .pn = [.pn] := same rfl
theorem cl_sl (n o l c : Nat) : AV.cl (.sl n o l c) = [.sl n o l c] := same rfl
theorem cl_sn : AV.cl .sn = [.sn] := same rfl
theorem cl_fn (f : Nat) (a c : List (Nat × Nat)) : AV.cl (.fn f a c) = [.fn f a c] := same rfl
theorem cl_agg (l : List AV) : AV.cl (.agg l) = l := same rfl
theorem spl_nil (z : List AV) (o : Nat) : spl z o [] = z := same rfl
theorem spl_zero (a : AV) (z : List AV) (x : AV) (r : List AV) : spl (a :: z) 0 (x :: r) = x :: spl z 0 r := by
  have key : ∀ (r : List AV) (y : AV) (z : List AV) (n : Nat), spl (y :: z) (n + 1) r = y :: spl z n r := by
    intro r
    induction r with
    | nil => intro _ _ _; rfl
    | cons q r ih => intro y z n; simp only [spl, List.set_cons_succ]; exact ih ..
  simp only [spl, List.set_cons_zero]; exact key ..
theorem spl_succ (a : AV) (z : List AV) (n : Nat) (r : List AV) : spl (a :: z) (n + 1) r = a :: spl z n r := by
  induction r generalizing z n with
  | nil => rfl
  | cons q r ih => simp only [spl, List.set_cons_succ]; exact ih ..
theorem win_zero (l : List AV) (o : Nat) : win l o 0 = [] := by simp [win]
theorem win_take (a : AV) (l : List AV) (n : Nat) : win (a :: l) 0 (n + 1) = a :: win l 0 n := by simp [win]
theorem win_drop (a : AV) (l : List AV) (o n : Nat) : win (a :: l) (o + 1) n = win l o n := by simp [win]
theorem rep_zero (z : List AV) : rep 0 z = [] := same rfl
theorem rep_succ (n : Nat) (z : List AV) : rep (n + 1) z = z ++ rep n z := same rfl
section
variable {k : IntKind} {x y : Int} {K : AV → Prop}
theorem ibin_add : ibin .add k x y K = (fits k (x + y) ∧ K (.i k (x + y))) := same rfl
theorem ibin_sub : ibin .sub k x y K = (fits k (x - y) ∧ K (.i k (x - y))) := same rfl
theorem ibin_mul : ibin .mul k x y K = (fits k (x * y) ∧ K (.i k (x * y))) := same rfl
theorem ibin_quo : ibin .quo k x y K = (y ≠ 0 ∧ fits k (x.tdiv y) ∧ K (.i k (x.tdiv y))) := same rfl
theorem ibin_rem : ibin .rem k x y K = (y ≠ 0 ∧ K (.i k (x.tmod y))) := same rfl
theorem ibin_eql : ibin .eql k x y K = K (.b (decide (x = y))) := same rfl
theorem ibin_neq : ibin .neq k x y K = K (.b (decide (x ≠ y))) := same rfl
theorem ibin_lss : ibin .lss k x y K = K (.b (decide (x < y))) := same rfl
theorem ibin_leq : ibin .leq k x y K = K (.b (decide (x ≤ y))) := same rfl
theorem ibin_gtr : ibin .gtr k x y K = K (.b (decide (y < x))) := same rfl
theorem ibin_geq : ibin .geq k x y K = K (.b (decide (y ≤ x))) := same rfl
theorem ibin_xor : ibin .xor k x y K = ((k = .i64 ∧ 0 ≤ x ∧ 0 ≤ y ∧ x < 4611686018427387904 ∧ y < 4611686018427387904) ∧ K (.i k ((x.toNat ^^^ y.toNat : Nat) : Int))) := same rfl
theorem fits_i64 : fits .i64 x = (-9223372036854775808 ≤ x ∧ x ≤ 9223372036854775807) := same rfl
theorem fits_u8 : fits .u8 x = (0 ≤ x ∧ x ≤ 255) := same rfl
theorem fits_u64 : fits .u64 x = (0 ≤ x ∧ x ≤ 18446744073709551615) := same rfl
theorem fits_u32 : fits .u32 x = (0 ≤ x ∧ x ≤ 4294967295) := same rfl
theorem ibin_and : ibin .and k x y K = ((k = .u64 ∧ 0 ≤ x ∧ x ≤ 18446744073709551615 ∧ y = 4294967295) ∧ K (.i k (x % 4294967296))) := same rfl
end
theorem rvals_nil (K : List AV → Prop) : rvals s [] K = K [] := same rfl
theorem rvals_t (n : Nat) (r : List RV) (K : List AV → Prop) : rvals ⟨T, σ⟩ (.t n :: r) K = rvals ⟨T, σ⟩ r fun l => K (look T n :: l) := same rfl
theorem rvals_cn (n : Nat) (r : List RV) (K : List AV → Prop) : rvals ⟨T, σ⟩ (.c n none :: r) K = onP (look T n) fun m o => onC σ[m]? fun cs => o < cs.length ∧ rvals ⟨T, σ⟩ r fun l => K (rd cs o :: l) := by
  simp only [rvals, onP]; generalize look T n = a; cases a <;> first | rfl | exact onC_get _
theorem rvals_cs (n k : Nat) (r : List RV) (K : List AV → Prop) : rvals ⟨T, σ⟩ (.c n (some k) :: r) K = onP (look T n) fun m o => onC σ[m]? fun cs => o + k ≤ cs.length ∧ rvals ⟨T, σ⟩ r fun l => K (.agg (win cs o k) :: l) := by
  simp only [rvals, onP]; generalize look T n = a; cases a <;> first | rfl | exact onC_get _
theorem oneOf_one (v : AV) (K : AV → Prop) : oneOf [v] K = K v := same rfl
theorem oneOf_nil (K : AV → Prop) : oneOf [] K = (true = true ∧ K (.tup [])) := same rfl
theorem oneOf_two (v u : AV) (l : List AV) (K : AV → Prop) : oneOf (v :: u :: l) K = ((v :: u :: l).all AV.data = true ∧ K (.tup (v :: u :: l))) := same rfl
theorem retP_normal (rs : List RV) : retP L0 rs K .normal ⟨T, σ⟩ = rvals ⟨T, σ⟩ rs fun l => oneOf l fun v => Fin L0 σ v K := same rfl
theorem retP_ret (rs : List RV) : retP L0 rs K .ret ⟨T, σ⟩ = rvals ⟨T, σ⟩ rs fun l => oneOf l fun v => Fin L0 σ v K := same rfl
def onCall (P : Program) (g : FuncId) (args : List AV) (σ : List AB) (K : AV → Prop) : Prop := ∃ v, CallWp P g args σ (fun x σ' => x = v ∧ σ' = σ) ∧ K v
theorem onCall.by {P : Program} {g : FuncId} {args : List AV} {σ : List AB} {K : AV → Prop} {v : AV} (h : CallWp P g args σ (fun x σ' => x = v ∧ σ' = σ)) (hk : K v) : onCall P g args σ K := ⟨v, h, hk⟩
@[congr] theorem onCall_congr {P : Program} {f : FuncId} {args args' : List AV} {σ σ' : List AB} {K : AV → Prop} (h1 : args = args') (h2 : σ = σ') : onCall P f args σ K = onCall P f args' σ' K := by rw [h1, h2]
def kP (K : AV → Prop) : AV → List AB → Prop := fun v _ => K v
section
variable {K : AV → Prop}
theorem kP_app (v : AV) (σ : List AB) : kP K v σ = K v := same rfl
theorem wpP_call (f : X) (args : List X) : wpP P (.call f args) ⟨T, σ⟩ K = onFn (ev T f) fun g a c => (args.map (ev T)).all AV.data = true ∧ onCall P g (pAV a ++ args.map (ev T) ++ pAV c) σ K := same rfl
theorem wpP_sadd (x y : X) : wpP P (.sadd x y) ⟨T, σ⟩ K = wpO P (.sadd x y) ⟨T, σ⟩ (kP K) := by simp [wpP, pureO]; rfl
theorem wpP_scmp (n : Bool) (x y : X) : wpP P (.scmp n x y) ⟨T, σ⟩ K = wpO P (.scmp n x y) ⟨T, σ⟩ (kP K) := by simp [wpP, pureO]; rfl
theorem wpP_sidx (x y : X) : wpP P (.sidx x y) ⟨T, σ⟩ K = wpO P (.sidx x y) ⟨T, σ⟩ (kP K) := by simp [wpP, pureO]; rfl
theorem wpP_sslc (x : X) (lo hi : Option X) : wpP P (.sslc x lo hi) ⟨T, σ⟩ K = wpO P (.sslc x lo hi) ⟨T, σ⟩ (kP K) := by simp [wpP, pureO]; rfl
theorem wpP_cvb (x : X) : wpP P (.cvb x) ⟨T, σ⟩ K = wpO P (.cvb x) ⟨T, σ⟩ (kP K) := by simp [wpP, pureO]; rfl
theorem wpP_inil (n : Bool) (x : X) : wpP P (.inil n x) ⟨T, σ⟩ K = wpO P (.inil n x) ⟨T, σ⟩ (kP K) := by simp [wpP, pureO]; rfl
theorem wpP_mv (x : X) : wpP P (.mv x) ⟨T, σ⟩ K = wpO P (.mv x) ⟨T, σ⟩ (kP K) := by simp [wpP, pureO]; rfl
theorem wpP_pick (c a b : X) : wpP P (.pick c a b) ⟨T, σ⟩ K = wpO P (.pick c a b) ⟨T, σ⟩ (kP K) := by simp [wpP, pureO]; rfl
theorem wpP_not (x : X) : wpP P (.not x) ⟨T, σ⟩ K = wpO P (.not x) ⟨T, σ⟩ (kP K) := by simp [wpP, pureO]; rfl
theorem wpP_neg (x : X) : wpP P (.neg x) ⟨T, σ⟩ K = wpO P (.neg x) ⟨T, σ⟩ (kP K) := by simp [wpP, pureO]; rfl
theorem wpP_ld (x : X) : wpP P (.ld x) ⟨T, σ⟩ K = wpO P (.ld x) ⟨T, σ⟩ (kP K) := by simp [wpP, pureO]; rfl
theorem wpP_nilc (x : X) : wpP P (.nilc x) ⟨T, σ⟩ K = wpO P (.nilc x) ⟨T, σ⟩ (kP K) := by simp [wpP, pureO]; rfl
theorem wpP_len (x : X) : wpP P (.len x) ⟨T, σ⟩ K = wpO P (.len x) ⟨T, σ⟩ (kP K) := by simp [wpP, pureO]; rfl
theorem wpP_slen (x : X) : wpP P (.slen x) ⟨T, σ⟩ K = wpO P (.slen x) ⟨T, σ⟩ (kP K) := by simp [wpP, pureO]; rfl
theorem wpP_mn (x y : X) : wpP P (.mn x y) ⟨T, σ⟩ K = wpO P (.mn x y) ⟨T, σ⟩ (kP K) := by simp [wpP, pureO]; rfl
theorem wpP_mx (x y : X) : wpP P (.mx x y) ⟨T, σ⟩ K = wpO P (.mx x y) ⟨T, σ⟩ (kP K) := by simp [wpP, pureO]; rfl
theorem wpP_bin (op : BinOp) (x y : X) : wpP P (.bin op x y) ⟨T, σ⟩ K = wpO P (.bin op x y) ⟨T, σ⟩ (kP K) := by simp [wpP, pureO]; rfl
theorem wpP_beq (neg : Bool) (x y : X) : wpP P (.beq neg x y) ⟨T, σ⟩ K = wpO P (.beq neg x y) ⟨T, σ⟩ (kP K) := by simp [wpP, pureO]; rfl
theorem wpP_aeq (neg : Bool) (q : List Bool) (x y : X) : wpP P (.aeq neg q x y) ⟨T, σ⟩ K = wpO P (.aeq neg q x y) ⟨T, σ⟩ (kP K) := by simp [wpP, pureO]; rfl
theorem wpP_ldn (n : Nat) (x : X) : wpP P (.ldn n x) ⟨T, σ⟩ K = wpO P (.ldn n x) ⟨T, σ⟩ (kP K) := by simp [wpP, pureO]; rfl
theorem wpP_fa (n : Nat) (x : X) : wpP P (.fa n x) ⟨T, σ⟩ K = wpO P (.fa n x) ⟨T, σ⟩ (kP K) := by simp [wpP, pureO]; rfl
theorem wpP_ia (n : Nat) (x i : X) : wpP P (.ia n x i) ⟨T, σ⟩ K = wpO P (.ia n x i) ⟨T, σ⟩ (kP K) := by simp [wpP, pureO]; rfl
theorem wpP_fld (n : Nat) (x : X) : wpP P (.fld n x) ⟨T, σ⟩ K = wpO P (.fld n x) ⟨T, σ⟩ (kP K) := by simp [wpP, pureO]; rfl
theorem wpP_build (z : List AV) (p : List (Nat × Nat × X)) : wpP P (.build z p) ⟨T, σ⟩ K = wpO P (.build z p) ⟨T, σ⟩ (kP K) := by simp [wpP, pureO]; rfl
theorem wpP_slc (n : Nat) (x : X) (lo hi mx : Option X) : wpP P (.slc n x lo hi mx) ⟨T, σ⟩ K = wpO P (.slc n x lo hi mx) ⟨T, σ⟩ (kP K) := by simp [wpP, pureO]; rfl
theorem wpP_mkf (n : Nat) (a c : List X) : wpP P (.mkf n a c) ⟨T, σ⟩ K = wpO P (.mkf n a c) ⟨T, σ⟩ (kP K) := by simp [wpP, pureO]; rfl
theorem wpP_ext (n : Nat) (x : X) : wpP P (.ext n x) ⟨T, σ⟩ K = wpO P (.ext n x) ⟨T, σ⟩ (kP K) := by simp [wpP, pureO]; rfl
theorem wpP_conv (k : IntKind) (x : X) : wpP P (.conv k x) ⟨T, σ⟩ K = wpO P (.conv k x) ⟨T, σ⟩ (kP K) := by simp [wpP, pureO]; rfl
end
end
/-! ### the simplifier's set -/
attribute [go_sem] fits_u64 fits_u32
attribute [go_sem ↓] ibin_and ibin_xor onB_b onG_b onG_u onI_i onS_s onP_p onAg_agg onTu_tup onFn_fn onC_ro
attribute [go_sem ↓] onMp_mp onJ_i onMb_mb
attribute [go_sem] shrv_32 shrv_1 shrOk_32 shrOk_1 wpO_die wpO_shr wpO_copy wpO_api wpO_clr wpO_sadd wpO_scmp wpO_sidx wpO_sslc wpO_cvb wpO_inil wpP_sadd wpP_scmp wpP_sidx wpP_sslc wpP_cvb wpP_inil onEx_nil onEx_iface bs_append bs_size bs_data bs_extract wpO_mkm wpO_lk wpO_mup Option.isSome_none Option.isSome_some Option.getD_none Option.getD_some
attribute [go_sem ↓] onC_rw onW_rw onO_some onSl_sl onSl_sn onNc_p onNc_fn bnd_none
attribute [go_sem ↓] bnd_some fillP_nil fillP_cons ibin_add ibin_sub ibin_mul ibin_quo ibin_rem
attribute [go_sem ↓] ibin_eql ibin_neq ibin_lss ibin_leq ibin_gtr ibin_geq rvals_nil rvals_t
attribute [go_sem ↓] rvals_cn rvals_cs oneOf_one oneOf_nil oneOf_two kP_app bc_true bc_false
attribute [go_sem ←] decide_not
attribute [go_sem] kJ_ret kJ_exit
attribute [go_sem] kF_some kF_none kN_app kH_some kH_none kE_app wpF_nil wpF_none wpF_some wpPlan_fin wpPlan_alt wpPlan_one wpPlan_guard stabs_nil stabs_ld stabs_ldn wpC_plan
attribute [go_sem] kI_some kI_none kQ_some kQ_none kS_normal kS_ret kS_exit kB_normal
attribute [go_sem] kB_ret kB_exit kD_app wpC_skip wpC_seq wpC_cond wpC_block wpC_exit
attribute [go_sem] wpC_ret wpC_ops wpC_draw wpI_nil wpI_none wpI_some wpQ_zero wpQ_none
attribute [go_sem] wpQ_some look_cons look_nil ev_t ev_k rd_zero rd_succ wpO_mv
attribute [go_sem] wpO_pick wpO_bin wpO_beq wpO_aeq wpO_not wpO_neg wpO_ld wpO_ldn
attribute [go_sem] wpO_st wpO_fa wpO_ia wpO_fld wpO_box wpO_alloc wpO_build wpO_bsl
attribute [go_sem] wpO_msl wpO_len wpO_slen wpO_snil wpO_mn wpO_mx wpO_call wpO_mkf wpO_ext
attribute [go_sem] wpO_conv wpO_nilc wpO_slc_none wpO_slc_some wpO_app wpO_appf toPs_nil toPs_cons
attribute [go_sem] toP_p pAV_nil pAV_cons data_b data_i data_s data_p data_pn
attribute [go_sem] data_sl data_sn data_fn data_fnil data_mp data_agg cl_b cl_i
attribute [go_sem] cl_s cl_p cl_pn cl_sl cl_sn cl_fn cl_agg spl_nil
attribute [go_sem] spl_zero spl_succ win_zero win_take win_drop rep_zero rep_succ fits_i64
attribute [go_sem] fits_u8 retP_normal retP_ret wpP_call wpP_mv wpP_pick wpP_not wpP_neg
attribute [go_sem] wpP_ld wpP_nilc wpP_len wpP_slen wpP_mn wpP_mx wpP_bin wpP_beq
attribute [go_sem] wpP_aeq wpP_ldn wpP_fa wpP_ia wpP_fld wpP_build wpP_slc wpP_mkf
attribute [go_sem] wpP_ext wpP_conv initT bc_not bc_dec eqT eqF List.length_nil
attribute [go_sem] List.set_cons_zero List.set_cons_succ List.length_cons List.length_append List.map_cons List.map_nil List.nil_append List.cons_append
attribute [go_sem] List.append_nil List.all_cons List.all_nil List.getElem?_cons_zero List.getElem?_cons_succ Nat.zero_add Nat.add_zero true_and
attribute [go_sem] and_true and_self true_implies implies_true Bool.and_true Bool.and_false Bool.not_true Bool.not_false
attribute [go_sem] Bool.and_self decide_true decide_false Option.map_some Option.map_none Option.bind_some Option.isSome_some Option.isSome_none
attribute [go_sem] Int.toNat_natCast Int.ofNat_lt Int.ofNat_le ge_iff_le gt_iff_lt ne_eq not_true_eq_false Nat.mul_one
attribute [go_sem] Int.natCast_nonneg Int.ofNat_inj Decidable.not_not not_false_eq_true Bool.false_eq_true
end Go.Abs
/- Words for walks: a state seen as another whose blocks are some of its own; calls that only read; rows handed back. -/
namespace Go.Abs
set_option linter.unusedVariables false
set_option linter.unusedSimpArgs false
def pickB (σ : List AB) (ν : List Nat) : List AB := ν.map fun m => σ.getD m .dead
def ltAll (N : Nat) (ν : List Nat) : Bool := ν.all fun m => Nat.blt m N
def nodup : List Nat → Bool
  | [] => true
  | a :: l => !(l.contains a) && nodup l
theorem nodup_at : ∀ {ν : List Nat}, nodup ν = true → ∀ n m : Nat, n < ν.length → m < ν.length → n ≠ m → ν.getD n 0 ≠ ν.getD m 0
  | [], _, n, m, h, _, _ => by simp at h
  | a :: l, hd, n, m, hn, hm, hne => by
    simp only [nodup, Bool.and_eq_true, Bool.not_eq_true', List.contains_eq_mem, decide_eq_false_iff_not] at hd
    cases n with
    | zero =>
      cases m with
      | zero => exact absurd rfl hne
      | succ m =>
        simp only [List.getD_cons_zero, List.getD_cons_succ]
        intro e
        apply hd.1
        rw [e, List.getD_eq_getElem?_getD, List.getElem?_eq_getElem (by simpa using hm)]
        exact List.getElem_mem _
    | succ n =>
      cases m with
      | zero =>
        simp only [List.getD_cons_zero, List.getD_cons_succ]
        intro e
        apply hd.1
        rw [← e, List.getD_eq_getElem?_getD, List.getElem?_eq_getElem (by simpa using hn)]
        exact List.getElem_mem _
      | succ m =>
        simp only [List.getD_cons_succ]
        exact nodup_at hd.2 n m (by simpa using hn) (by simpa using hm) (by omega)
theorem pickB_at {σ : List AB} {ν : List Nat} {n : Nat} {B : AB} (h : (pickB σ ν)[n]? = some B) : n < ν.length ∧ B = σ.getD (ν.getD n 0) .dead := by
  unfold pickB at h
  rw [List.getElem?_map] at h
  cases hn : ν[n]? with
  | none => rw [hn] at h; cases h
  | some m =>
    rw [hn] at h
    simp only [Option.map_some, Option.some.injEq] at h
    refine ⟨(List.getElem?_eq_some_iff.1 hn).1, ?_⟩
    rw [List.getD_eq_getElem?_getD (l := ν), hn]
    exact h.symm
def keepC (ν : List Nat) (N : Nat) : AV → Bool
  | .p n _ => Nat.blt n N && Nat.beq (ν.getD n 0) n
  | .sl n _ _ _ => Nat.blt n N && Nat.beq (ν.getD n 0) n
  | .mp n => Nat.blt n N && Nat.beq (ν.getD n 0) n
  | x => flat x
def keepB (ν : List Nat) (N : Nat) : AB → Bool
  | .dead => true
  | .ro cs => cs.all (keepC ν N)
  | .rw _ cs _ => cs.all (keepC ν N)
  | .mb .. => true
  | .gl .. => true
theorem keepC_flat {ν : List Nat} {N : Nat} {x : AV} (h : flat x = true) : keepC ν N x = true := by cases x <;> first | exact h | cases h
theorem keep_flat {ν : List Nat} {N : Nat} {l : List AV} (h : l.all flat = true) : l.all (keepC ν N) = true := by
  rw [List.all_eq_true] at h ⊢; exact fun x hx => keepC_flat (h x hx)
theorem Enc.row_keep {α : Type} (E : Enc α) (L : List α) (ν : List Nat) (N : Nat) : (E.row L).all (keepC ν N) = true := keep_flat (E.row_flat L)
theorem keepC_ren {ν : List Nat} {N : Nat} {x : AV} (h : keepC ν N x = true) : renC (nat2 ν) x = x ∧ below N x = true := by
  cases x <;> simp only [keepC, Bool.and_eq_true, Nat.blt_eq] at h <;> first
    | exact ⟨rfl, rfl⟩
    | (cases h; done)
    | exact ⟨by simp only [renC, nat2, Nat.eq_of_beq_eq_true h.2, Nat.zero_add], by simp only [below, decide_eq_true_eq]; exact h.1⟩
theorem keep_map {ν : List Nat} {N : Nat} {l : List AV} (h : l.all (keepC ν N) = true) : l.map (renC (nat2 ν)) = l := by
  induction l with
  | nil => rfl
  | cons x l ih => simp only [List.all_cons, Bool.and_eq_true] at h; rw [List.map_cons, (keepC_ren h.1).1, ih h.2]
theorem keep_below {ν : List Nat} {N : Nat} {l : List AV} (h : l.all (keepC ν N) = true) : l.all (below N) = true := by
  rw [List.all_eq_true] at h ⊢; exact fun x hx => (keepC_ren (h x hx)).2
theorem keepB_fit {ν : List Nat} {σ : List AB} {N m : Nat} {B : AB} (h0 : m < σ.length) (he : B = σ.getD m .dead) (hf : keepB ν N B = true) : FitW (nat2 ν) N σ (m, 0) B := by
  have hg : σ[m]? = some B := by rw [he, List.getD_eq_getElem?_getD, List.getElem?_eq_getElem h0]; rfl
  cases B with
  | dead => trivial
  | ro cs =>
    refine ⟨keep_below hf, .inr ⟨cs, by simp [cellsOf, hg], by simp, ?_⟩⟩
    rw [keep_map hf]; simp [win]
  | rw ty cs r => exact .inr ⟨keep_below hf, rfl, by rw [keep_map hf]; exact hg⟩
  | mb P k e n f => exact ⟨rfl, hg⟩
  | gl b v => exact ⟨rfl, hg⟩
theorem pick_fits {σ σ1 : List AB} (ν : List Nat) (hσ : σ1 = pickB σ ν) (hlt : ltAll σ.length ν = true) (hn : nodup ν = true) (hf : σ1.all (keepB ν σ1.length) = true) : FitsW (nat2 ν) σ σ1 := by
  subst hσ
  refine ⟨fun n B h => ?_, ?_⟩
  · obtain ⟨h1, h2⟩ := pickB_at h
    refine keepB_fit ?_ h2 ?_
    · unfold ltAll at hlt
      rw [List.all_eq_true] at hlt
      have : ν.getD n 0 ∈ ν := by rw [List.getD_eq_getElem?_getD, List.getElem?_eq_getElem h1]; exact List.getElem_mem _
      exact by simpa using hlt _ this
    · rw [List.all_eq_true] at hf
      exact hf B (List.mem_of_getElem? h)
  · intro n B m B' h _ h' _ hne
    exact nodup_at hn m n (pickB_at h').1 (pickB_at h).1 hne
theorem Wk.pick {L0 nt : Nat} {T T1 : List (Nat × AV)} {σ σ1 : List AB} (ν : List Nat) (hT : seesT (nat2 ν) T σ1.length T1 := by simp [seesT, belowT, below1, below, sees, ren, ren1, renC, rnp, nat2, look_cons, St.put]) (hσ : σ1 = pickB σ ν := by rfl) (hlt : ltAll σ.length ν = true := by rfl) (hn : nodup ν = true := by rfl) (hL : L0 ≤ ν.length := by simp)
    (hid : idL L0 ν := by simp [idL]) (hf : σ1.all (keepB ν σ1.length) = true := by simp [keepB, keepC, flat, Enc.row_keep]) : Wk L0 nt ⟨T, σ⟩ ⟨T1, σ1⟩ :=
  Wk.of ν (by rw [hσ, pickB, List.length_map]; exact hL) (idL_at hid) ⟨seesT_at hT, pick_fits ν hσ hlt hn hf⟩
theorem Fin.pick {L0 : Nat} {σ : List AB} {v : AV} {K : AV → List AB → Prop} (ν : List Nat) (v1 : AV) (σ1 : List AB) (hk : K v1 σ1) (hσ : σ1 = pickB σ ν := by rfl) (hlt : ltAll σ.length ν = true := by rfl) (hn : nodup ν = true := by rfl) (hL : L0 ≤ ν.length := by simp)
    (hid : idL L0 ν := by simp [idL]) (hf : σ1.all (keepB ν σ1.length) = true := by simp [keepB, keepC, flat, Enc.row_keep]) (hv : sees (nat2 ν) v v1 := by simp [sees, ren, ren1, renC, rnp, nat2]) (hb : belowT σ1.length v1 = true := by simp [belowT, below1, below]) : Fin L0 σ v K :=
  Fin.of ν (by rw [hσ, pickB, List.length_map]; exact hL) (idL_at hid) hv hb (pick_fits ν hσ hlt hn hf) hk
def lowC (N : Nat) : AV → Bool
  | .p n _ => Nat.blt n N
  | .sl n _ _ _ => Nat.blt n N
  | .mp n => Nat.blt n N
  | x => flat x
def lowB (N : Nat) : AB → Bool
  | .dead => true
  | .ro cs => cs.all (lowC N)
  | .rw _ cs _ => cs.all (lowC N)
  | .mb .. => true
  | .gl .. => true
theorem lowC_flat {N : Nat} {x : AV} (h : flat x = true) : lowC N x = true := by cases x <;> first | exact h | cases h
theorem low_flat {N : Nat} {l : List AV} (h : l.all flat = true) : l.all (lowC N) = true := by
  rw [List.all_eq_true] at h ⊢; exact fun x hx => lowC_flat (h x hx)
theorem Enc.row_low {α : Type} (E : Enc α) (L : List α) (N : Nat) : (E.row L).all (lowC N) = true := low_flat (E.row_flat L)
theorem lowC_keep {N : Nat} {x : AV} (h : lowC N x = true) : keepC (List.range N) N x = true := by
  have hg : ∀ n, Nat.blt n N = true → Nat.beq ((List.range N).getD n 0) n = true := by
    intro n hn
    have hn' : n < N := by simpa using hn
    simp [List.getD_eq_getElem?_getD, hn']
  cases x <;> simp only [lowC, keepC, Bool.and_eq_true] at h ⊢ <;> first | exact h | exact ⟨h, hg _ h⟩
theorem lowB_keep {N : Nat} {B : AB} (h : lowB N B = true) : keepB (List.range N) N B = true := by
  cases B <;> simp only [lowB, keepB, List.all_eq_true] at h ⊢
  all_goals exact fun x hx => lowC_keep (h x hx)
theorem Fin.same {L0 : Nat} {σ σ0 τ : List AB} {v r : AV} (he : v = r) (hσ : σ = σ0 ++ τ := by rfl) (hL : L0 = σ0.length := by rfl) (hf : σ0.all (lowB σ0.length) = true := by simp [lowB, lowC, flat, Enc.row_low]) (hv : flat1 v = true := by rfl) : Fin L0 σ v (fun x σ' => x = r ∧ σ' = σ0) := by
  subst hσ
  have hg : ∀ n, n < σ0.length → (List.range σ0.length).getD n 0 = n := fun n hn => by simp [List.getD_eq_getElem?_getD, hn]
  refine Fin.of (List.range σ0.length) (Nat.le_of_eq hL) (fun n hn => hg n (by omega)) (.inr (.inl (flat1_renT hv).symm)) ?_ ?_ ⟨he, rfl⟩
  · cases v
    case tup l => cases hv
    all_goals exact flat1_below (N := σ0.length) hv
  · refine ⟨fun n B h => ?_, ?_⟩
    · have hlt := (List.getElem?_eq_some_iff.1 h).1
      have e : nat2 (List.range σ0.length) n = (n, 0) := by rw [nat2, hg n hlt]
      rw [e]
      refine keepB_fit (by simp; omega) ?_ ?_
      · rw [List.getD_eq_getElem?_getD, List.getElem?_append_left hlt, h]; rfl
      · rw [List.all_eq_true] at hf
        exact lowB_keep (hf B (List.mem_of_getElem? h))
    · intro n B m B' h _ h' _ hne
      simp only [nat2]
      rw [hg n (List.getElem?_eq_some_iff.1 h).1, hg m (List.getElem?_eq_some_iff.1 h').1]
      exact hne
/-! ### calls that read rows -/
def RdR (σ : List AB) (v : AV) (len : Nat) (row : List AV) : Prop :=
  row.all flat = true ∧ ((∃ n o cap cs, v = .sl n o len cap ∧ n < σ.length ∧ cellsOf σ n = some cs ∧ o + row.length ≤ cs.length ∧ win cs o row.length = row) ∨ (v = .sn ∧ len = 0 ∧ row = [] ∧ 0 < σ.length))
theorem Rd.r {α : Type} {E : Enc α} {σ : List AB} {v : AV} {L : List α} (h : Rd E σ v L) : RdR σ v L.length (E.row L) := by
  refine ⟨E.row_flat L, ?_⟩
  rcases h with ⟨n, o, cap, cs, rfl, hn, hc, hle, hw⟩ | ⟨rfl, rfl, h0⟩
  · exact .inl ⟨n, o, cap, cs, rfl, hn, hc, by rw [E.row_length]; exact hle, by rw [E.row_length]; exact hw⟩
  · exact .inr ⟨rfl, rfl, rfl, h0⟩
structure Sl where
  v : AV
  len : Nat
  row : List AV
def Sl.ok (σ : List AB) (s : Sl) : Prop := RdR σ s.v s.len s.row
def slBl (S : List Sl) : List AB := S.map fun s => .ro s.row
def slArgs (ν : Nat → Nat × Nat) (caps : Nat → Nat) (k : Nat) : List Sl → Prop
  | [] => True
  | s :: r => sees1 ν s.v (.sl k 0 s.len (caps k)) ∧ slArgs ν caps (k + 1) r
theorem rds_fit {σ : List AB} : ∀ {S : List Sl}, (∀ s ∈ S, s.ok σ) → ∀ k, ∃ (m : Nat → Nat × Nat) (caps : Nat → Nat),
    (∀ i, i < S.length → (m (k + i)).1 < σ.length) ∧ (∀ ν, (∀ i, i < S.length → ν (k + i) = m (k + i)) → slArgs ν caps k S) ∧ ∀ i s, S[i]? = some s → ∀ ν N0, FitB ν N0 σ (m (k + i)) (.ro s.row)
  | [], _, k => ⟨fun _ => (0, 0), fun _ => 0, fun i h => by simp at h, fun _ _ => trivial, fun i s h => by simp at h⟩
  | s :: S, h, k => by
    obtain ⟨m, caps, h1, h2, h3⟩ := rds_fit (S := S) (fun s hs => h s (List.mem_cons_of_mem _ hs)) (k + 1)
    have hs := h s (List.mem_cons_self ..)
    have key : ∃ (a : Nat × Nat) (cap : Nat), a.1 < σ.length ∧ (∀ ν : Nat → Nat × Nat, ν k = a → sees1 ν s.v (.sl k 0 s.len cap)) ∧ ∀ ν N0, FitB ν N0 σ a (.ro s.row) := by
      obtain ⟨hf, ⟨n, o, cap, cs, hv, hn, hc, hle, hw⟩ | ⟨hv, hl, hr, h0⟩⟩ := hs
      · refine ⟨(n, o), cap, hn, fun ν hj => .inl (by simp [ren1, renC, hj, hv]), fun ν N0 => ⟨all_flat hf, .inr ⟨cs, hc, hle, ?_⟩⟩⟩
        rw [map_flat hf, hw]
      · rw [hl, hr]
        exact ⟨(0, 0), 0, h0, fun ν hj => .inr ⟨hv, k, 0, rfl⟩, fun ν N0 => ⟨rfl, .inl rfl⟩⟩
    obtain ⟨a, cap, ha1, ha2, ha3⟩ := key
    refine ⟨fun i => if i = k then a else m i, fun i => if i = k then cap else caps i, ?_, ?_, ?_⟩
    · intro i hi
      cases i with
      | zero => simpa using ha1
      | succ i =>
        have := h1 i (by simpa using hi)
        dsimp only
        rw [if_neg (by omega)]
        rwa [show k + (i + 1) = k + 1 + i from by omega]
    · intro ν hν
      refine ⟨?_, ?_⟩
      · dsimp only
        rw [if_pos rfl]
        exact ha2 ν (by have := hν 0 (by simp); simpa using this)
      · have hgen : ∀ (R : List Sl) (j : Nat), k < j → slArgs ν caps j R → slArgs ν (fun i => if i = k then cap else caps i) j R := by
          intro R
          induction R with
          | nil => intro _ _ _; trivial
          | cons r R ih => intro j hj hr; exact ⟨by dsimp only; rw [if_neg (by omega)]; exact hr.1, ih (j + 1) (by omega) hr.2⟩
        refine hgen S (k + 1) (by omega) (h2 ν fun i hi => ?_)
        have := hν (i + 1) (by simpa using hi)
        dsimp only at this
        rw [if_neg (by omega)] at this
        rwa [show k + 1 + i = k + (i + 1) from by omega]
    · intro i s' hs' ν N0
      cases i with
      | zero => simp at hs'; subst hs'; simpa using ha3 ν N0
      | succ i =>
        have := h3 i s' (by simpa using hs') ν N0
        dsimp only
        rw [if_neg (by omega)]
        rwa [show k + (i + 1) = k + 1 + i from by omega]
section
variable {P : Program} {f : FuncId} {σ : List AB} {args : List AV} {K : AV → List AB → Prop}
theorem rds_all {S : List Sl} {ν m : Nat → Nat × Nat} (hm : ∀ i, i < S.length → ν i = m i) (h3 : ∀ i s, S[i]? = some s → ∀ ν N0, FitB ν N0 σ (m i) (.ro s.row)) : Fits ν σ (slBl S) := by
  refine ⟨fun n B h => ?_, ?_⟩
  · unfold slBl at h
    rw [List.getElem?_map] at h
    cases hs : S[n]? with
    | none => rw [hs] at h; cases h
    | some s =>
      rw [hs] at h
      simp only [Option.map_some, Option.some.injEq] at h
      subst h
      rw [hm n (List.getElem?_eq_some_iff.1 hs).1]
      exact h3 n s hs _ _
  · intro n B m' B' h hr
    unfold slBl at h
    rw [List.getElem?_map] at h
    cases hs : S[n]? with
    | none => rw [hs] at h; cases h
    | some s =>
      rw [hs] at h
      simp only [Option.map_some, Option.some.injEq] at h
      subst h
      cases hr
theorem call_rds (S : List Sl) (hS : ∀ s ∈ S, s.ok σ) (args0 : (Nat → Nat) → List AV) {r : AV} (h : ∀ c, CallWp P f (args0 c) (slBl S) fun x σ' => x = r ∧ σ' = slBl S)
    (ha : ∀ ν c, slArgs ν c 0 S → seesL ν args (args0 c)) (hb : ∀ c, (args0 c).all (below1 S.length) = true) (hr : flat1 r = true) (hk : K r σ) : CallWp P f args σ K := by
  obtain ⟨m, c, h1, h2, h3⟩ := rds_fit hS 0
  simp only [Nat.zero_add] at h1 h2 h3
  refine call_same (ν := m) (K0 := fun x _ => x = r) (h c) (rds_all (fun _ _ => rfl) h3) ?_ ?_ (ha m c (h2 m fun _ _ => rfl)) ?_
  · intro n hn; exact h1 n (by simpa [slBl] using hn)
  · simpa [slBl] using hb c
  · rintro x rfl; rw [flat1_renT hr]; exact hk
theorem updL_ro (g ν : Nat → Nat × Nat) : ∀ (S : List Sl) (r' : List AB) (k : Nat) (σ : List AB), updL g ν k (slBl S) r' σ = σ
  | [], r', k, σ => by cases r' <;> rfl
  | s :: S, [], k, σ => rfl
  | s :: S, B' :: r', k, σ => by
    have := updL_ro g ν S r' (k + 1) σ
    simp only [slBl, List.map_cons] at this ⊢
    simpa [updL] using this
theorem call_new (S : List Sl) (hS : ∀ s ∈ S, s.ok σ) (args0 : (Nat → Nat) → List AV) {ty : TypeId} {len k : Nat} {row : List AV}
    (h : ∀ c, CallWp P f (args0 c) (slBl S) fun x σ' => ∃ cap, x = .sl S.length 0 len cap ∧ σ' = slBl S ++ [.rw ty row (cap * k)])
    (ha : ∀ ν c, slArgs ν c 0 S → seesL ν args (args0 c)) (hb : ∀ c, (args0 c).all (below1 S.length) = true) (hr : row.all flat = true) (hk : ∀ cap, K (.sl σ.length 0 len cap) (σ ++ [.rw ty row (cap * k)])) : CallWp P f args σ K := by
  obtain ⟨m, c, h1, h2, h3⟩ := rds_fit hS 0
  simp only [Nat.zero_add] at h1 h2 h3
  have hlen : (slBl S).length = S.length := by simp [slBl]
  refine call_frame (ν := m) (h c) (rds_all (fun _ _ => rfl) h3) ?_ ?_ (ha m c (h2 m fun _ _ => rfl)) ?_
  · intro n hn; exact h1 n (by simpa [slBl] using hn)
  · simpa [slBl] using hb c
  · rintro x σ' hl ⟨cap, rfl, rfl⟩
    refine ⟨?_, ?_⟩
    · intro n B hn hlt
      by_cases hn' : n < (slBl S).length
      · obtain ⟨B0, hB0, hrw⟩ := hlt hn'
        unfold slBl at hB0
        rw [List.getElem?_map] at hB0
        cases hs : S[n]? with
        | none => rw [hs] at hB0; cases hB0
        | some s => rw [hs] at hB0; simp only [Option.map_some, Option.some.injEq] at hB0; subst hB0; cases hrw
      · rw [List.getElem?_append_right (by omega)] at hn
        rcases hq : n - (slBl S).length with _ | q
        · rw [hq] at hn; simp at hn; subst hn; rfl
        · rw [hq] at hn; simp at hn
    · have e1 : plug m σ (slBl S) (slBl S ++ [.rw ty row (cap * k)]) = σ ++ [.rw ty row (cap * k)] := by
        rw [plug, updL_ro, List.drop_left']
        · simp only [List.map_cons, List.map_nil, renB, map_flat hr]
        · rfl
      have e2 : ren (Abs.out m (slBl S).length σ.length) (.sl S.length 0 len cap) = .sl σ.length 0 len cap := by
        simp [ren, ren1, renC, Abs.out, hlen]
      rw [e1, e2]
      exact hk cap
end
theorem Rd.fresh {α : Type} {E : Enc α} {σ τ : List AB} {ty : TypeId} {L : List α} {cap r : Nat} : Rd E (σ ++ .rw ty (E.row L) r :: τ) (.sl σ.length 0 L.length cap) L := by
  refine .inl ⟨σ.length, 0, cap, E.row L, rfl, by simp, by simp [cellsOf], by rw [E.row_length]; omega, ?_⟩
  rw [← E.row_length L]; simp [win]
theorem onC_of {σ : List AB} {n : Nat} {cs : List AV} (h : cellsOf σ n = some cs) (f : List AV → Prop) : onC σ[n]? f = f cs := by
  rw [← onC_get, h]
theorem Wk.keep {L0 nt : Nat} {T T1 : List (Nat × AV)} {σ : List AB} (h : ∀ p ∈ T1, look T p.1 = p.2) : Wk L0 nt ⟨T, σ⟩ ⟨T1, σ⟩ := by
  intro F ρ a w hL hs
  refine ⟨ρ, fun _ _ => rfl, hL, hs.1, hs.2.1, hs.2.2.1, fun t => ?_⟩
  rcases look_mem (T := T1) (t := t) with ⟨p, hp, h1, h2⟩ | h2
  · have h3 := hs.2.2.2 t
    simp only at h3 ⊢
    rw [h2, ← h p hp, h1]
    exact h3
  · simp only [h2]; trivial
theorem rds1 {σ : List AB} {v : AV} {n : Nat} {r : List AV} (h : RdR σ v n r) : ∀ s ∈ [(⟨v, n, r⟩ : Sl)], s.ok σ := by
  intro s hs
  obtain rfl := List.mem_singleton.1 hs
  exact h
theorem rds_cons {σ : List AB} {v : AV} {n : Nat} {r : List AV} {S : List Sl} (h : RdR σ v n r) (hS : ∀ s ∈ S, s.ok σ) : ∀ s ∈ (⟨v, n, r⟩ : Sl) :: S, s.ok σ := by
  intro s hs
  rcases List.mem_cons.1 hs with rfl | hs
  · exact h
  · exact hS s hs
theorem bc_of {x : Bool} {A B : Prop} (h1 : x = true → A) (h2 : x = false → B) : bc x A B := ⟨h1, h2⟩
theorem win_at {α : Type} {E : Enc α} {cs : List AV} {o : Nat} {L : List α} (hle : o + L.length * E.k ≤ cs.length) (hw : win cs o (L.length * E.k) = E.row L) (k : Nat) (h : k < L.length) :
    o + k * E.k + E.k ≤ cs.length ∧ win cs (o + k * E.k) E.k = E.f L[k] := by
  have h1 : k * E.k + E.k ≤ L.length * E.k := by
    have := Nat.mul_le_mul_right E.k (show k + 1 ≤ L.length from h)
    rw [Nat.add_mul, Nat.one_mul] at this
    exact this
  refine ⟨by omega, ?_⟩
  rw [← E.win L k h, ← hw]
  simp only [win]
  rw [List.drop_take, List.take_take, List.drop_drop]
  congr 1
  omega
theorem rd_at {α : Type} {E : Enc α} {cs : List AV} {o : Nat} {L : List α} (hle : o + L.length * E.k ≤ cs.length) (hw : win cs o (L.length * E.k) = E.row L) (k : Nat) (h : k < L.length) (j : Nat) (hj : j < E.k) :
    o + k * E.k + j < cs.length ∧ rd cs (o + k * E.k + j) = rd (E.f L[k]) j := by
  obtain ⟨h1, h2⟩ := win_at hle hw k h
  refine ⟨by omega, ?_⟩
  rw [← h2]
  simp only [rd, win]
  rw [List.getElem?_take, if_pos hj, List.getElem?_drop]
theorem Rd.own {α : Type} {E : Enc α} {σ : List AB} {n cap : Nat} {L : List α} (h : cellsOf σ n = some (E.row L)) : Rd E σ (.sl n 0 L.length cap) L := by
  refine .inl ⟨n, 0, cap, E.row L, rfl, ?_, h, by rw [E.row_length]; omega, ?_⟩
  · unfold cellsOf at h
    cases hn : σ[n]? with
    | none => rw [hn] at h; cases h
    | some B => exact (List.getElem?_eq_some_iff.1 hn).1
  · rw [← E.row_length L]; simp [win]
theorem Enc.rep {α : Type} (E : Enc α) (z : α) : ∀ n : Nat, Abs.rep n (E.f z) = E.row (List.replicate n z)
  | 0 => rfl
  | n + 1 => by rw [rep_succ, Enc.rep E z n, List.replicate_succ]; simp [Enc.row, encs]
theorem kJ_intro {L0 nt : Nat} {ι : Type} {Θ : ι → St} {J : ι → Prop} {Q : Exit → St → Prop} {s : St} (i : ι) (hJ : J i) (hW : Wk L0 nt s (Θ i)) : kJ L0 nt Θ J Q .normal s := ⟨i, hJ, hW⟩
end Go.Abs
/- From a law's arguments to the abstract heap and back: slices of plain elements opened, and what the call leaves. -/
namespace Go.Abs
open Go.RowKit Go.ChangeShapes Go.WideShapes Go.Deep
set_option linter.unusedVariables false
set_option linter.unusedSimpArgs false
theorem MC_flat {ρ ρ' : Pl} {N N' : Nat} {x : AV} {v : Value} (hf : flat x = true) (h : MC ρ N x v) : MC ρ' N' x v := by
  cases x <;> first | exact h | cases hf
section
variable {H : Type} {enc : TypeId × Value → H} {P : Program} {w : World} {base : Nat} {spare : Nat → Bool} {held : Bool}
def IsEl {α : Type} (E : Enc α) (x : α) (cs : List Value) : Prop := ∀ (j : Nat) (a : AV), (E.f x)[j]? = some a → ∃ u : Value, cs[j]? = some u ∧ MC (fun _ => (0, 0)) 0 a u
def IsRow {α : Type} (E : Enc α) (W : World) (v : Value) (L : List α) (cap : Nat) : Prop :=
  (v = .slice none 0 0 ∧ L = [] ∧ cap = 0) ∨ ∃ b o, v = .slice (some ⟨b, o, none⟩) L.length cap ∧ L.length ≤ cap ∧ (E.row L ≠ [] → ∃ c T fr, W.heap[b]? = some (.cells c T fr) ∧ Cells (fun _ => (0, 0)) 0 c o (E.row L))
theorem addr_add (b o x y : Nat) : (((⟨b, o, none⟩ : Addr).add x).add y) = ⟨b, o + x + y, none⟩ := by
  unfold Addr.add
  by_cases hx : x = 0
  · by_cases hy : y = 0
    · simp [hx, hy]
    · simp [hx, hy]
  · by_cases hy : y = 0
    · simp [hx, hy]
    · simp [hx, hy]
theorem open_flat {α : Type} [Inhabited α] (E : Enc α) (hk : 0 < E.k) {ok : α → Prop} {t e : TypeId} {v : Value} {d : DataW H} {ps : List MemPlace} {ts : List TypeId} {ds : List (DataW H)} {j : Nat} {B : Nat}
    (ht : P.underlying t = some (.slice e)) (hc : P.cellsOf e = E.k) (hB : P.bytesOf e = B) (hel : ∀ n cs y, cs.length = E.k → DataW.trod enc P w 0 spare held n e cs = some y → ∃ x, ok x ∧ IsEl E x cs)
    (hok : Value.okWide P w .any base t v) (hsz : (DataW.weightsEach P ts ds).all (· ≤ reachBytes) = true) (htj : ts[j]? = some t) (hdj : ds[j]? = some d) (h : DataW.Trod enc P w 0 spare held t v d ps) :
    ∃ (L : List α) (cap : Nat), IsRow E w v L cap ∧ (∀ x ∈ L, ok x) ∧ L.length * B ≤ 140737488351232 ∧ L.length ≤ cap := by
  obtain ⟨a, len, cap, rfl⟩ := okWide_slice ht hok
  obtain ⟨fuel, hf⟩ := h
  rcases open_slice ht hf with ⟨h0, _⟩ | ⟨a', len', cap', m, n, D, Pl, h0, _, hl, hm, hmm, hx, hi⟩
  · simp [Value.cells] at h0
    obtain ⟨rfl, rfl, rfl⟩ := h0
    exact ⟨[], 0, .inl ⟨rfl, rfl, rfl⟩, by simp, by simp, Nat.le_refl _⟩
  · simp [Value.cells] at h0
    obtain ⟨rfl, rfl, rfl⟩ := h0
    simp only [Value.okWide, ht, Cell.okWide, Cell.ok] at hok
    obtain ⟨_, _, _, hspot, _⟩ := hok
    obtain ⟨b, o, sp⟩ := a'
    simp only at hspot
    subst hspot
    have hlm : len ≤ m := by rw [hmm]; split <;> omega
    have each : ∀ i, i < len → ∃ x, ok x ∧ ∀ j a, (E.f x)[j]? = some a → ∃ u, w.cell? ⟨b, o + i * E.k + j, none⟩ = some u ∧ MC (fun _ => (0, 0)) 0 a u := by
      intro i hi'
      obtain ⟨cs', h1, h2⟩ := hi i (by omega)
      rw [hc] at h1
      obtain ⟨_, hlen, hcell⟩ := World.cells?_some h1
      obtain ⟨x, hx1, hx2⟩ := hel n cs' _ hlen h2
      refine ⟨x, hx1, fun j a ha => ?_⟩
      obtain ⟨u, hu, hm⟩ := hx2 j a ha
      have hj : j < E.k := by rw [← E.len x]; exact (List.getElem?_eq_some_iff.1 ha).1
      refine ⟨u, ?_, hm⟩
      rw [← hu, ← hcell j hj, addr_add]
    obtain ⟨g, hg⟩ := choose_lt each
    have hLlen : ((List.range len).map g).length = len := by simp
    have hLat : ∀ i (h : i < ((List.range len).map g).length), ((List.range len).map g)[i] = g i := by intro i h; simp
    refine ⟨(List.range len).map g, cap, .inr ⟨b, o, by rw [hLlen], by rw [hLlen]; exact hl, fun hne => ?_⟩, ?_, ?_, by rw [hLlen]; exact hl⟩
    · have key : ∀ q a, (E.row ((List.range len).map g))[q]? = some a → ∃ u, w.cell? ⟨b, o + q, none⟩ = some u ∧ MC (fun _ => (0, 0)) 0 a u := by
        intro q a hq
        have hqlt := (List.getElem?_eq_some_iff.1 hq).1
        rw [E.row_length, hLlen] at hqlt
        have hdiv : q / E.k < len := (Nat.div_lt_iff_lt_mul hk).2 hqlt
        have hmod := Nat.mod_lt q hk
        have hsum : q = q / E.k * E.k + q % E.k := by rw [Nat.mul_comm]; exact (Nat.div_add_mod q E.k).symm
        have hw := E.win ((List.range len).map g) (q / E.k) (by rw [hLlen]; exact hdiv)
        rw [hLat] at hw
        have ha : (E.f (g (q / E.k)))[q % E.k]? = some a := by
          rw [← hw, Abs.win, List.getElem?_take, if_pos hmod, List.getElem?_drop, ← hsum]
          exact hq
        obtain ⟨u, h1, h2⟩ := (hg (q / E.k) hdiv).2 _ a ha
        refine ⟨u, ?_, h2⟩
        rw [← h1, show o + q / E.k * E.k + q % E.k = o + q from by omega]
      have : ∃ c T fr, w.heap[b]? = some (.cells c T fr) := by
        cases hr : E.row ((List.range len).map g) with
        | nil => exact absurd hr hne
        | cons a r =>
          obtain ⟨u, h1, _⟩ := key 0 a (by rw [hr]; rfl)
          simp only [World.cell?] at h1
          split at h1
          · rename_i c T fr hh; exact ⟨c, T, fr, hh⟩
          · cases h1
      obtain ⟨c, T, fr, hh⟩ := this
      refine ⟨c, T, fr, hh, fun q a hq => ?_⟩
      obtain ⟨u, h1, h2⟩ := key q a hq
      refine ⟨u, ?_, h2⟩
      simpa [World.cell?, hh] using h1
    · intro x hx
      obtain ⟨i, hi', rfl⟩ := List.mem_map.1 hx
      exact (hg i (List.mem_range.1 hi')).1
    · rw [hLlen]
      obtain ⟨hx1, _⟩ := Prod.mk.inj hx
      rw [hx1] at hdj
      have z := sized_slice hsz htj hdj ht
      rw [hB] at z
      refine Nat.le_trans (Nat.mul_le_mul_right _ ?_) z
      simp
end
theorem IsRow.holds {α : Type} {E : Enc α} {W : World} {v : Value} {L : List α} {cap : Nat} (h : IsRow E W v L cap) :
    ∃ a : Nat × Nat, (∀ (ρ : Pl) N n, n < N → ρ n = a → M1 ρ N (.sl n 0 L.length cap) v) ∧ ∀ (ρ : Pl) N, Holds ρ N W a (.ro (E.row L)) := by
  rcases h with ⟨rfl, rfl, rfl⟩ | ⟨b, o, rfl, hle, hc⟩
  · exact ⟨(0, 0), fun ρ N n hn _ => ⟨hn, Nat.le_refl _, .inr ⟨rfl, rfl, rfl⟩⟩, fun ρ N h => absurd rfl h⟩
  · refine ⟨(b, o), fun ρ N n hn ha => ⟨hn, hle, .inl ?_⟩, fun ρ N hne => ?_⟩
    · simp [ad, ha]
    · obtain ⟨c, T, fr, hh, hcs⟩ := hc hne
      refine ⟨c, T, fr, hh, fun k x hk => ?_⟩
      obtain ⟨u, h1, h2⟩ := hcs k x hk
      have hfl : flat x = true := by
        have := List.all_eq_true.1 (E.row_flat L) x (List.mem_of_getElem? hk)
        exact this
      exact ⟨u, h1, MC_flat hfl h2⟩
theorem open_u8 {H : Type} {enc : TypeId × Value → H} {P : Program} {w : World} {spare : Nat → Bool} {held : Bool} {e : TypeId} (he : P.underlying e = some (.int .u8)) (n : Nat) (cs : List Value) (y : DataW H × List MemPlace) (_ : cs.length = encByte.k)
    (h : DataW.trod enc P w 0 spare held n e cs = some y) : ∃ x : Nat, x < 256 ∧ IsEl encByte x cs := by
  obtain ⟨x, rfl, _, hw⟩ := DataW.trod_int he h
  simp [Lit.wf, IntKind.min, IntKind.max, IntKind.signed, IntKind.bits] at hw
  refine ⟨x.toNat, by omega, ?_⟩
  intro j a ha
  match j, ha with
  | 0, ha => cases ha; exact ⟨_, rfl, by simp only [MC]; congr 1; omega⟩
  | j + 1, ha => simp [encByte] at ha
end Go.Abs
/- Calls of functions that draw from a reader: what the reader is, and what a call of such a function does to the caller's heap. -/
namespace Go.Abs
set_option linter.unusedVariables false
set_option linter.unusedSimpArgs false
/-- Block n is a reader of the bytes B at place p. -/
structure Rdr (ty : TypeId) (σ : List AB) (n : Nat) (B : List Nat) (p : Int) (m o c : Nat) : Prop where
  blk : σ[n]? = some (.rw ty [.sl m o B.length c, .i .i64 p] 2)
  ne : m ≠ n
  win : ∃ cs, cellsOf σ m = some cs ∧ o + B.length ≤ cs.length ∧ Abs.win cs o B.length = encByte.row B
def Sl.okx (σ : List AB) (n : Nat) (s : Sl) : Prop :=
  s.row.all flat = true ∧ ((∃ q o cap cs, s.v = .sl q o s.len cap ∧ q ≠ n ∧ q < σ.length ∧ cellsOf σ q = some cs ∧ o + s.row.length ≤ cs.length ∧ win cs o s.row.length = s.row) ∨ (s.v = .sn ∧ s.len = 0 ∧ s.row = []))
theorem rds_fitx {σ : List AB} {n b0 : Nat} (hb0 : b0 ≠ n) (hb1 : b0 < σ.length) : ∀ {S : List Sl}, (∀ s ∈ S, s.okx σ n) → ∀ k, ∃ (m : Nat → Nat × Nat) (caps : Nat → Nat),
    (∀ i, i < S.length → (m (k + i)).1 < σ.length ∧ (m (k + i)).1 ≠ n) ∧ (∀ ν, (∀ i, i < S.length → ν (k + i) = m (k + i)) → slArgs ν caps k S) ∧ ∀ i s, S[i]? = some s → ∀ ν N0, FitB ν N0 σ (m (k + i)) (.ro s.row)
  | [], _, k => ⟨fun _ => (0, 0), fun _ => 0, fun i h => by simp at h, fun _ _ => trivial, fun i s h => by simp at h⟩
  | s :: S, h, k => by
    obtain ⟨m, caps, h1, h2, h3⟩ := rds_fitx hb0 hb1 (S := S) (fun s hs => h s (List.mem_cons_of_mem _ hs)) (k + 1)
    have hs := h s (List.mem_cons_self ..)
    have key : ∃ (a : Nat × Nat) (cap : Nat), (a.1 < σ.length ∧ a.1 ≠ n) ∧ (∀ ν : Nat → Nat × Nat, ν k = a → sees1 ν s.v (.sl k 0 s.len cap)) ∧ ∀ ν N0, FitB ν N0 σ a (.ro s.row) := by
      obtain ⟨hf, ⟨q, o, cap, cs, hv, hqn, hn, hc, hle, hw⟩ | ⟨hv, hl, hr⟩⟩ := hs
      · refine ⟨(q, o), cap, ⟨hn, hqn⟩, fun ν hj => .inl (by simp [ren1, renC, hj, hv]), fun ν N0 => ⟨all_flat hf, .inr ⟨cs, hc, hle, ?_⟩⟩⟩
        rw [map_flat hf, hw]
      · rw [hl, hr]
        exact ⟨(b0, 0), 0, ⟨hb1, hb0⟩, fun ν hj => .inr ⟨hv, k, 0, rfl⟩, fun ν N0 => ⟨rfl, .inl rfl⟩⟩
    obtain ⟨a, cap, ha1, ha2, ha3⟩ := key
    refine ⟨fun i => if i = k then a else m i, fun i => if i = k then cap else caps i, ?_, ?_, ?_⟩
    · intro i hi
      cases i with
      | zero => simpa using ha1
      | succ i =>
        have := h1 i (by simpa using hi)
        dsimp only
        rw [if_neg (by omega)]
        rwa [show k + (i + 1) = k + 1 + i from by omega]
    · intro ν hν
      refine ⟨?_, ?_⟩
      · dsimp only
        rw [if_pos rfl]
        exact ha2 ν (by have := hν 0 (by simp); simpa using this)
      · have hgen : ∀ (R : List Sl) (j : Nat), k < j → slArgs ν caps j R → slArgs ν (fun i => if i = k then cap else caps i) j R := by
          intro R
          induction R with
          | nil => intro _ _ _; trivial
          | cons r R ih => intro j hj hr; exact ⟨by dsimp only; rw [if_neg (by omega)]; exact hr.1, ih (j + 1) (by omega) hr.2⟩
        refine hgen S (k + 1) (by omega) (h2 ν fun i hi => ?_)
        have := hν (i + 1) (by simpa using hi)
        dsimp only at this
        rw [if_neg (by omega)] at this
        rwa [show k + 1 + i = k + (i + 1) from by omega]
    · intro i s' hs' ν N0
      cases i with
      | zero => simp at hs'; subst hs'; simpa using ha3 ν N0
      | succ i =>
        have := h3 i s' (by simpa using hs') ν N0
        dsimp only
        rw [if_neg (by omega)]
        rwa [show k + (i + 1) = k + 1 + i from by omega]
def plainRw : AB → Bool
  | .rw _ cs _ => cs.all flat
  | _ => false
def freshC (N : Nat) : AV → Bool
  | .sl n _ _ _ => Nat.ble N n
  | x => flat x
def fresh1 (N : Nat) : AV → Bool
  | .agg l => l.all flat
  | x => freshC N x
def fresh (N : Nat) : AV → Bool
  | .tup l => l.all (fresh1 N)
  | x => fresh1 N x
def shift (N0 N : Nat) : AV → AV := ren fun i => (N + (i - N0), 0)
theorem freshC_ren {N0 N : Nat} {ν : Nat → Nat × Nat} {x : AV} (h : freshC N0 x = true) : renC (out ν N0 N) x = renC (fun i => (N + (i - N0), 0)) x := by
  cases x <;> first | rfl | (cases h; done) | skip
  rename_i n o l c
  simp only [freshC] at h
  have : N0 ≤ n := by simpa using h
  simp only [renC, out, if_neg (show ¬ n < N0 by omega)]
theorem fresh1_ren {N0 N : Nat} {ν : Nat → Nat × Nat} {x : AV} (h : fresh1 N0 x = true) : ren1 (out ν N0 N) x = ren1 (fun i => (N + (i - N0), 0)) x := by
  cases x
  case agg l => simp only [ren1]; rw [map_flat h, map_flat h]
  all_goals exact freshC_ren (N0 := N0) (N := N) (ν := ν) (by simpa only [fresh1] using h)
theorem fresh_ren {N0 N : Nat} {ν : Nat → Nat × Nat} {x : AV} (h : fresh N0 x = true) : ren (out ν N0 N) x = shift N0 N x := by
  cases x
  case tup l =>
    simp only [ren, shift]
    congr 1
    apply List.map_congr_left
    intro y hy
    exact fresh1_ren (List.all_eq_true.1 h y hy)
  all_goals exact fresh1_ren (N0 := N0) (N := N) (ν := ν) (by simpa only [fresh] using h)
theorem plain_map {g : Nat → Nat × Nat} : ∀ {τ : List AB}, τ.all plainRw = true → τ.map (renB g) = τ
  | [], _ => rfl
  | B :: τ, h => by
    simp only [List.all_cons, Bool.and_eq_true] at h
    rw [List.map_cons, plain_map h.2]
    cases B with
    | rw ty cs r => simp only [renB]; rw [map_flat h.1]
    | _ => cases h.1
section
variable {P : Program} {f : FuncId} {σ : List AB} {K : AV → List AB → Prop}
theorem call_rdr (ty : TypeId) {n m o c : Nat} {B : List Nat} {p : Int} (h : Rdr ty σ n B p m o c) (S : List Sl) (hS : ∀ s ∈ S, s.okx σ n) (rest : (Nat → Nat) → List AV) {restA : List AV} (G : AV → Int → List AB → Prop)
    (hb : ∀ q, CallWp P f (.p 1 0 :: rest q) (.ro (encByte.row B) :: .rw ty [.sl 0 0 B.length c, .i .i64 p] 2 :: slBl S) fun x σ' => ∃ p' τ, σ' = (.ro (encByte.row B) :: .rw ty [.sl 0 0 B.length c, .i .i64 p'] 2 :: slBl S) ++ τ ∧ G x p' τ)
    (hG : ∀ x p' τ, G x p' τ → τ.all plainRw = true ∧ fresh (2 + S.length) x = true) (ha : ∀ ν q, slArgs ν q 2 S → seesL ν restA (rest q)) (hbl : ∀ q, (rest q).all (below1 (2 + S.length)) = true)
    (hk : ∀ x p' τ, G x p' τ → K (shift (2 + S.length) σ.length x) (σ.set n (.rw ty [.sl m o B.length c, .i .i64 p'] 2) ++ τ)) : CallWp P f (.p n 0 :: restA) σ K := by
  obtain ⟨cs, hcs, hle, hw⟩ := h.win
  have hn : n < σ.length := (List.getElem?_eq_some_iff.1 h.blk).1
  have hm : m < σ.length := by
    rcases cellsOf_cases hcs with hh | ⟨_, _, hh⟩ <;> exact (List.getElem?_eq_some_iff.1 hh).1
  obtain ⟨μ, q, h1, h2, h3⟩ := rds_fitx h.ne hm hS 2
  let ν : Nat → Nat × Nat := fun i => if i = 0 then (m, o) else if i = 1 then (n, 0) else μ i
  have ν0 : ν 0 = (m, o) := rfl
  have ν1 : ν 1 = (n, 0) := rfl
  have ν2 : ∀ i, i < S.length → ν (2 + i) = μ (2 + i) := fun i _ => by simp only [ν]; rw [if_neg (by omega), if_neg (by omega)]
  have hlen : (AB.ro (encByte.row B) :: .rw ty [.sl 0 0 B.length c, .i .i64 p] 2 :: slBl S).length = 2 + S.length := by simp [slBl]; omega
  have hrow : (encByte.row B).length = B.length := by simpa [encByte] using encByte.row_length B
  have at0 : ∀ (i : Nat) (C : AB), (AB.ro (encByte.row B) :: .rw ty [.sl 0 0 B.length c, .i .i64 p] 2 :: slBl S)[i]? = some C → (i = 0 ∧ C = .ro (encByte.row B)) ∨ (i = 1 ∧ C = .rw ty [.sl 0 0 B.length c, .i .i64 p] 2) ∨ ∃ j s, i = 2 + j ∧ S[j]? = some s ∧ C = .ro s.row := by
    intro i C hi
    match i, hi with
    | 0, hi => cases hi; exact .inl ⟨rfl, rfl⟩
    | 1, hi => cases hi; exact .inr (.inl ⟨rfl, rfl⟩)
    | i + 2, hi =>
      refine .inr (.inr ⟨i, ?_⟩)
      simp only [List.getElem?_cons_succ, slBl, List.getElem?_map] at hi
      cases hs : S[i]? with
      | none => rw [hs] at hi; cases hi
      | some s => rw [hs] at hi; simp only [Option.map_some, Option.some.injEq] at hi; exact ⟨s, by omega, rfl, hi.symm⟩
  have hfit : Fits ν σ (.ro (encByte.row B) :: .rw ty [.sl 0 0 B.length c, .i .i64 p] 2 :: slBl S) := by
    refine ⟨fun i C hi => ?_, ?_⟩
    · rcases at0 i C hi with ⟨rfl, rfl⟩ | ⟨rfl, rfl⟩ | ⟨j, s, rfl, hj, rfl⟩
      · refine ⟨all_flat (encByte.row_flat B), .inr ⟨cs, by rw [ν0]; exact hcs, by rw [hrow, ν0]; exact hle, ?_⟩⟩
        rw [map_flat (encByte.row_flat B), hrow, ν0, hw]
      · refine ⟨?_, rfl, ?_⟩
        · rw [hlen]; simp [below]; omega
        · rw [ν1]
          simp only [List.map_cons, List.map_nil, renC, ν0, Nat.add_zero]
          exact h.blk
      · rw [ν2 j (List.getElem?_eq_some_iff.1 hj).1]
        exact h3 j s hj _ _
    · intro i C i' C' hi hC hi' hC' hne
      rcases at0 i C hi with ⟨rfl, rfl⟩ | ⟨rfl, rfl⟩ | ⟨j, s, rfl, hj, rfl⟩
      · cases hC
      · rw [ν1]
        rcases at0 i' C' hi' with ⟨rfl, rfl⟩ | ⟨rfl, rfl⟩ | ⟨j', s', rfl, hj', rfl⟩
        · rw [ν0]; exact h.ne
        · exact absurd rfl hne
        · have hlt := (List.getElem?_eq_some_iff.1 hj').1
          rw [ν2 j' hlt]; exact (h1 j' hlt).2
      · cases hC
  refine call_frame (ν := ν) (hb q) hfit ?_ ?_ ⟨.inl (by simp [ren1, renC, ν1]), ha ν q (h2 ν ν2)⟩ ?_
  · intro i hi
    rw [hlen] at hi
    match i, hi with
    | 0, _ => rw [ν0]; exact hm
    | 1, _ => rw [ν1]; exact hn
    | i + 2, hi =>
      have := ν2 i (by omega)
      rw [show i + 2 = 2 + i from by omega, this]
      exact (h1 i (by omega)).1
  · rw [hlen]
    simp only [List.all_cons, below1, below, Bool.and_eq_true, decide_eq_true_eq]
    exact ⟨by omega, hbl q⟩
  · rintro x σ' hl ⟨p', τ, rfl, hg⟩
    obtain ⟨hτ, hx⟩ := hG x p' τ hg
    have hlen' : (AB.ro (encByte.row B) :: .rw ty [.sl 0 0 B.length c, .i .i64 p'] 2 :: slBl S).length = 2 + S.length := by simp [slBl]; omega
    refine ⟨?_, ?_⟩
    · intro i C hi hlt
      by_cases hi' : i < 2 + S.length
      · obtain ⟨B0, hB0, hrw⟩ := hlt (by rw [hlen]; exact hi')
        rcases at0 i B0 hB0 with ⟨rfl, rfl⟩ | ⟨rfl, rfl⟩ | ⟨j, s, rfl, hj, rfl⟩
        · cases hrw
        · rw [List.getElem?_append_left (by rw [hlen']; omega)] at hi; cases hi; rfl
        · cases hrw
      · rw [List.getElem?_append_right (by rw [hlen']; omega)] at hi
        have := List.all_eq_true.1 hτ C (List.mem_of_getElem? hi)
        cases C <;> first | rfl | cases this
    · have e1 : plug ν σ (.ro (encByte.row B) :: .rw ty [.sl 0 0 B.length c, .i .i64 p] 2 :: slBl S) ((.ro (encByte.row B) :: .rw ty [.sl 0 0 B.length c, .i .i64 p'] 2 :: slBl S) ++ τ) = σ.set n (.rw ty [.sl m o B.length c, .i .i64 p'] 2) ++ τ := by
        rw [plug, hlen, show 2 + S.length = (AB.ro (encByte.row B) :: .rw ty [.sl 0 0 B.length c, .i .i64 p'] 2 :: slBl S).length from hlen'.symm, List.drop_left', plain_map hτ]
        · congr 1
          simp only [List.cons_append, updL, updL_ro]
          rw [ν1]
          simp only [renB, List.map_cons, List.map_nil, renC]
          have e0 : out ν (AB.ro (encByte.row B) :: .rw ty [.sl 0 0 B.length c, .i .i64 p'] 2 :: slBl S).length σ.length 0 = (m, o) := by rw [hlen']; simp only [out]; rw [if_pos (by omega), ν0]
          rw [e0]; rfl
        · rfl
      rw [e1, hlen, fresh_ren hx]
      exact hk x p' τ hg
end
end Go.Abs
/- Words for functions over a heap of which only parts are known: what a heap's cells name lies in it; new blocks behind it. -/
namespace Go.Abs
set_option linter.unusedVariables false
set_option linter.unusedSimpArgs false
def cellsIn (N : Nat) : AB → Bool
  | .ro cs => cs.all (below N)
  | .rw _ cs _ => cs.all (below N)
  | _ => true
def Closed (σ : List AB) : Prop := ∀ (n : Nat) (B : AB), σ[n]? = some B → cellsIn σ.length B = true
theorem MC.below {ρ : Pl} {N : Nat} {x : AV} {v : Value} (h : MC ρ N x v) : below N x = true := by
  cases x <;> simp only [MC] at h <;> simp only [Abs.below, decide_eq_true_eq, Bool.and_eq_true, List.all_eq_true]
  case p => exact h.1
  case sl => exact h.1
  case mp => exact h.1
  case fn => exact ⟨h.1, h.2.1⟩
theorem MC.low {ρ : Pl} {N N' : Nat} {x : AV} {v : Value} (h : MC ρ N x v) (hb : Abs.below N' x = true) : MC ρ N' x v := by
  cases x <;> simp only [MC] at h ⊢ <;> simp only [Abs.below, decide_eq_true_eq, Bool.and_eq_true, List.all_eq_true] at hb <;> first
    | exact h
    | exact ⟨hb, h.2⟩
    | exact ⟨hb.1, hb.2, h.2.2⟩
theorem Cells.below {ρ : Pl} {N : Nat} {c : Array Value} {o : Nat} {cs : List AV} (h : Cells ρ N c o cs) : cs.all (Abs.below N) = true := by
  rw [List.all_eq_true]
  intro x hx
  obtain ⟨k, hk⟩ := List.getElem?_of_mem hx
  obtain ⟨v, _, hm⟩ := h k x hk
  exact hm.below
theorem Cells.low {ρ : Pl} {N N' : Nat} {c : Array Value} {o : Nat} {cs : List AV} (h : Cells ρ N c o cs) (hb : cs.all (Abs.below N') = true) : Cells ρ N' c o cs := fun k x hk => by
  obtain ⟨v, h1, h2⟩ := h k x hk
  exact ⟨v, h1, h2.low (List.all_eq_true.1 hb x (List.mem_of_getElem? hk))⟩
theorem Sim.closed {F : Fr} {ρ : Pl} {σ : List AB} {w : World} (h : Sim F ρ σ w) : Closed σ := by
  intro n B hn
  have hb := h.bl n B hn
  cases B with
  | dead => rfl
  | mb P k e c f => rfl
  | gl b v => rfl
  | ro cs =>
    by_cases hc : cs = []
    · subst hc; rfl
    · obtain ⟨c, T, fr, _, h2⟩ := hb hc
      exact h2.below
  | rw ty cs r =>
    by_cases hr : r = 0
    · obtain rfl : cs = [] := List.eq_nil_of_length_eq_zero (by have := hb.1; omega)
      rfl
    · obtain ⟨_, c, _, _, h2⟩ := hb.2 hr
      exact h2.below
theorem Holds.low {ρ : Pl} {N N' : Nat} {w : World} {a : Nat × Nat} {B : AB} (h : Holds ρ N w a B) (hb : cellsIn N' B = true) : Holds ρ N' w a B := by
  cases B with
  | dead => trivial
  | mb P k e c f => exact h
  | gl b v => exact h
  | ro cs => intro hne; obtain ⟨c, T, fr, h1, h2⟩ := h hne; exact ⟨c, T, fr, h1, h2.low hb⟩
  | rw ty cs r => exact ⟨h.1, fun hr => by obtain ⟨h1, c, h2, h3, h4⟩ := h.2 hr; exact ⟨h1, c, h2, h3, h4.low hb⟩⟩
theorem Sim.drop {F : Fr} {ρ : Pl} {σ τ : List AB} {w : World} (h : Sim F ρ (σ ++ τ) w) (hc : Closed σ) : Sim F ρ σ w := by
  have hat : ∀ n B, σ[n]? = some B → (σ ++ τ)[n]? = some B := fun n B hn => by rw [List.getElem?_append_left (List.getElem?_eq_some_iff.1 hn).1]; exact hn
  exact ⟨h.os, h.tape, h.out, h.sz, h.fr, fun n B hn => (h.bl n B (hat n B hn)).low (hc n B hn), fun n B hn hW => ⟨(h.own n B (hat n B hn) hW).1, fun m B' hm hB hd => (h.own n B (hat n B hn) hW).2 m B' hm (hat m B' hB) hd⟩⟩
theorem MCs.low {ρ : Pl} {N N' : Nat} : ∀ {l : List AV} {vs : List Value}, MCs ρ N l vs → l.all (Abs.below N') = true → MCs ρ N' l vs
  | [], [], _, _ => trivial
  | _ :: _, _ :: _, h, hb => by simp only [List.all_cons, Bool.and_eq_true] at hb; exact ⟨h.1.low hb.1, MCs.low h.2 hb.2⟩
  | [], _ :: _, h, _ => h.elim
  | _ :: _, [], h, _ => h.elim
theorem M1.low {ρ : Pl} {N N' : Nat} {x : AV} {v : Value} (h : M1 ρ N x v) (hb : below1 N' x = true) : M1 ρ N' x v := by
  cases x
  case agg l => obtain ⟨vs, h1, h2⟩ := h; exact ⟨vs, h1, h2.low hb⟩
  all_goals (simp only [M1] at h ⊢; exact h.low hb)
theorem M1s.low {ρ : Pl} {N N' : Nat} : ∀ {l : List AV} {vs : List Value}, M1s ρ N l vs → l.all (below1 N') = true → M1s ρ N' l vs
  | [], [], _, _ => trivial
  | _ :: _, _ :: _, h, hb => by simp only [List.all_cons, Bool.and_eq_true] at hb; exact ⟨h.1.low hb.1, M1s.low h.2 hb.2⟩
  | [], _ :: _, h, _ => h.elim
  | _ :: _, [], h, _ => h.elim
theorem M.low {ρ : Pl} {N N' : Nat} {x : AV} {v : Value} (h : M ρ N x v) (hb : belowT N' x = true) : M ρ N' x v := by
  cases x
  case tup l => obtain ⟨vs, h1, h2⟩ := h; exact ⟨vs, h1, h2.low hb⟩
  case j => trivial
  all_goals (simp only [M] at h ⊢; exact M1.low h hb)
theorem MCs.below {ρ : Pl} {N : Nat} : ∀ {l : List AV} {vs : List Value}, MCs ρ N l vs → l.all (Abs.below N) = true
  | [], [], _ => rfl
  | _ :: _, _ :: _, h => by simp only [List.all_cons, Bool.and_eq_true]; exact ⟨h.1.below, MCs.below h.2⟩
  | [], _ :: _, h => h.elim
  | _ :: _, [], h => h.elim
theorem M1.below {ρ : Pl} {N : Nat} {x : AV} {v : Value} (h : M1 ρ N x v) : below1 N x = true := by
  cases x
  case agg l => obtain ⟨vs, h1, h2⟩ := h; exact h2.below
  all_goals (simp only [M1] at h; exact h.below)
theorem M1s.below {ρ : Pl} {N : Nat} : ∀ {l : List AV} {vs : List Value}, M1s ρ N l vs → l.all (below1 N) = true
  | [], [], _ => rfl
  | _ :: _, _ :: _, h => by simp only [List.all_cons, Bool.and_eq_true]; exact ⟨h.1.below, M1s.below h.2⟩
  | [], _ :: _, h => h.elim
  | _ :: _, [], h => h.elim
theorem Wk.drop {L0 nt : Nat} {T T1 : List (Nat × AV)} {σ τ : List AB} (hc : Closed σ) (hL : L0 ≤ σ.length) (hT : ∀ p ∈ T1, look T p.1 = p.2 ∧ belowT σ.length p.2 = true) : Wk L0 nt ⟨T, σ ++ τ⟩ ⟨T1, σ⟩ := by
  intro F ρ a w _ hs
  refine ⟨ρ, fun _ _ => rfl, hL, hs.1.drop hc, hs.2.1, hs.2.2.1, fun t => ?_⟩
  rcases look_mem (T := T1) (t := t) with ⟨p, hp, h1, h2⟩ | h2
  · have h3 := hs.2.2.2 t
    simp only at h3 ⊢
    subst h1
    rw [(hT p hp).1] at h3
    rw [h2]
    exact h3.low (hT p hp).2
  · simp only [h2]; trivial
theorem below_mono {N N' : Nat} (h : N ≤ N') {x : AV} (hb : Abs.below N x = true) : Abs.below N' x = true := by
  cases x <;> simp only [Abs.below, decide_eq_true_eq, Bool.and_eq_true, List.all_eq_true] at hb ⊢ <;> first
    | omega
    | exact ⟨fun y hy => by have := hb.1 y hy; omega, fun y hy => by have := hb.2 y hy; omega⟩
theorem cellsIn_mono {N N' : Nat} (h : N ≤ N') {B : AB} (hb : cellsIn N B = true) : cellsIn N' B = true := by
  cases B <;> simp only [cellsIn, List.all_eq_true] at hb ⊢ <;> first | rfl | exact fun x hx => below_mono h (hb x hx)
theorem Closed.add {σ τ : List AB} (h : Closed σ) (ht : τ.all (cellsIn (σ.length + τ.length)) = true) : Closed (σ ++ τ) := by
  intro n B hn
  rw [List.length_append]
  rcases Nat.lt_or_ge n σ.length with h1 | h1
  · rw [List.getElem?_append_left h1] at hn
    exact cellsIn_mono (by omega) (h n B hn)
  · rw [List.getElem?_append_right h1] at hn
    exact List.all_eq_true.1 ht B (List.mem_of_getElem? hn)
theorem Fin.drop {L0 : Nat} {σ τ : List AB} {v : AV} {K : AV → List AB → Prop} (hc : Closed σ) (hL : L0 ≤ σ.length) (hb : belowT σ.length v = true) (hk : K v σ) : Fin L0 (σ ++ τ) v K :=
  fun F ρ w cv _ hs hm => ⟨σ, v, ρ, fun _ _ => rfl, hL, hs.drop hc, hm.low hb, hk⟩
theorem call_fnC {P : Program} (hm : P.follows .mixedOrders = true) {f : FuncId} {fn : Func} {nt : Nat} {lc : LC} {rs : List RV} (hf : P.funcs[f]? = some fn) (hc : chkF P fn nt lc rs = true) {args : List AV} {σ : List AB} {K : AV → List AB → Prop}
    (hn : args.length ≤ nt) (hw : Closed σ → args.all (below1 σ.length) = true → wpC P σ.length nt lc (retP σ.length rs K) ⟨initT 0 args, σ⟩) : CallWp P f args σ K := by
  refine ⟨?_, fun F ρ w vs hs hv => (call_fn hm hf hc hn (hw hs.closed hv.below)).2 F ρ w vs hs hv⟩
  simp only [chkF, Bool.and_eq_true, beq_iff_eq, Bool.not_eq_true'] at hc
  obtain ⟨⟨⟨_, h2⟩, h3⟩, _⟩ := hc
  split at h3
  · rename_i code hb
    exact ⟨fn, hf, h2, by rw [hb]; rfl⟩
  · cases h3
theorem enters_of {P : Program} {f : FuncId} {fn : Func} {nt : Nat} {lc : LC} {rs : List RV} (hf : P.funcs[f]? = some fn) (hc : chkF P fn nt lc rs = true) : Enters P f := by
  simp only [chkF, Bool.and_eq_true, beq_iff_eq, Bool.not_eq_true'] at hc
  obtain ⟨⟨⟨_, h2⟩, h3⟩, _⟩ := hc
  split at h3
  · rename_i code hb
    exact ⟨fn, hf, h2, by rw [hb]; rfl⟩
  · cases h3
theorem M1s.at {ρ : Pl} {N : Nat} : ∀ {l : List AV} {vs : List Value}, M1s ρ N l vs → ∀ {k : Nat} {x : AV}, l[k]? = some x → ∃ v, M1 ρ N x v
  | [], [], _, _, _, h => by simp at h
  | _ :: _, v :: _, h, 0, _, hx => by simp at hx; subst hx; exact ⟨v, h.1⟩
  | _ :: _, _ :: _, h, k + 1, _, hx => by simp at hx; exact h.2.at hx
  | [], _ :: _, h, _, _, _ => h.elim
  | _ :: _, [], h, _, _, _ => h.elim
theorem CallWp.cap {P : Program} {f : FuncId} {args : List AV} {σ : List AB} {K : AV → List AB → Prop} (h0 : Enters P f) {k n o len cap : Nat} (hk : args[k]? = some (.sl n o len cap)) (h : len ≤ cap → CallWp P f args σ K) : CallWp P f args σ K :=
  ⟨h0, fun F ρ w vs hs hv => by
    obtain ⟨v, hv1⟩ := hv.at hk
    exact (h hv1.2.1).2 F ρ w vs hs hv⟩
theorem CallWp.room {P : Program} {f : FuncId} {args : List AV} {σ : List AB} {K : AV → List AB → Prop} (h0 : Enters P f) {n r : Nat} {ty : TypeId} {cs : List AV} (hk : σ[n]? = some (.rw ty cs r)) (h : cs.length ≤ r → CallWp P f args σ K) : CallWp P f args σ K :=
  ⟨h0, fun F ρ w vs hs hv => (h (hs.bl n _ hk).1).2 F ρ w vs hs hv⟩
theorem CallWp.closed {P : Program} {f : FuncId} {args : List AV} {σ : List AB} {K : AV → List AB → Prop} (h0 : Enters P f) (h : Closed σ → CallWp P f args σ K) : CallWp P f args σ K :=
  ⟨h0, fun F ρ w vs hs hv => (h hs.closed).2 F ρ w vs hs hv⟩
/-! ### blocks behind a heap -/
theorem at_new (σ τ : List AB) (k : Nat) : (σ ++ τ)[σ.length + k]? = τ[k]? := by rw [List.getElem?_append_right (by omega)]; congr 1; omega
theorem at_new0 (σ τ : List AB) : (σ ++ τ)[σ.length]? = τ[0]? := at_new σ τ 0
theorem at_old {σ : List AB} {n : Nat} {B : AB} (h : σ[n]? = some B) (τ : List AB) : (σ ++ τ)[n]? = some B := by rw [List.getElem?_append_left (List.getElem?_eq_some_iff.1 h).1]; exact h
theorem set_new (σ τ : List AB) (k : Nat) (B : AB) : (σ ++ τ).set (σ.length + k) B = σ ++ τ.set k B := by rw [List.set_append, if_neg (by omega)]; congr 2; omega
theorem set_new0 (σ τ : List AB) (B : AB) : (σ ++ τ).set σ.length B = σ ++ τ.set 0 B := set_new σ τ 0 B
theorem cells_old {σ : List AB} {n : Nat} {cs : List AV} (h : cellsOf σ n = some cs) (τ : List AB) : cellsOf (σ ++ τ) n = some cs := by
  rcases cellsOf_cases h with h | ⟨ty, r, h⟩
  · simp only [cellsOf, at_old h]
  · simp only [cellsOf, at_old h]
theorem cells_lt {σ : List AB} {n : Nat} {cs : List AV} (h : cellsOf σ n = some cs) : n < σ.length := by
  rcases cellsOf_cases h with h | ⟨ty, r, h⟩ <;> exact (List.getElem?_eq_some_iff.1 h).1
theorem onC_old {σ : List AB} {n : Nat} {cs : List AV} (h : cellsOf σ n = some cs) (τ : List AB) (f : List AV → Prop) : onC (σ ++ τ)[n]? f = f cs := onC_of (cells_old h τ) f
theorem Rd.at {α : Type} {E : Enc α} {σ : List AB} {v : AV} {L : List α} (h : Rd E σ v L) {k : Nat} (hk : k < L.length) :
    ∃ n o cap cs, v = .sl n o L.length cap ∧ cellsOf σ n = some cs ∧ o + k * E.k + E.k ≤ cs.length ∧ win cs (o + k * E.k) E.k = E.f L[k] ∧ ∀ j, j < E.k → o + k * E.k + j < cs.length ∧ rd cs (o + k * E.k + j) = rd (E.f L[k]) j := by
  rcases h with ⟨n, o, cap, cs, rfl, hn, hc, hle, hw⟩ | ⟨_, rfl, _⟩
  · exact ⟨n, o, cap, cs, rfl, hc, (win_at hle hw k hk).1, (win_at hle hw k hk).2, fun j hj => rd_at hle hw k hk j hj⟩
  · simp at hk
def Var (σ : List AB) (x : Nat × Nat) (v : AV) : Prop := ∃ cs, cellsOf σ x.1 = some cs ∧ x.2 < cs.length ∧ rd cs x.2 = v
theorem Var.app {σ : List AB} {x : Nat × Nat} {v : AV} (h : Var σ x v) (τ : List AB) : Var (σ ++ τ) x v := by
  obtain ⟨cs, h1, h2⟩ := h
  exact ⟨cs, cells_old h1 τ, h2⟩
theorem Enc.row_bel {α : Type} (E : Enc α) (L : List α) (N : Nat) : (E.row L).all (Abs.below N) = true := all_flat (E.row_flat L)
/-! ### a heap seen anew: the elder part stays, of the new blocks some are kept, under new names -/
end Go.Abs
/- A call that lays rows behind the heap and answers with them. -/
namespace Go.Abs
set_option linter.unusedVariables false
set_option linter.unusedSimpArgs false
def fresh1A (N : Nat) : AV → Bool
  | .agg l => l.all (freshC N)
  | x => freshC N x
def freshA (N : Nat) : AV → Bool
  | .tup l => l.all (fresh1A N)
  | x => fresh1A N x
theorem fresh1A_ren {N0 N : Nat} {ν : Nat → Nat × Nat} {x : AV} (h : fresh1A N0 x = true) : ren1 (out ν N0 N) x = ren1 (fun i => (N + (i - N0), 0)) x := by
  cases x
  case agg l =>
    simp only [ren1]
    congr 1
    apply List.map_congr_left
    intro y hy
    exact freshC_ren (List.all_eq_true.1 h y hy)
  all_goals exact freshC_ren (N0 := N0) (N := N) (ν := ν) (by simpa only [fresh1A] using h)
theorem freshA_ren {N0 N : Nat} {ν : Nat → Nat × Nat} {x : AV} (h : freshA N0 x = true) : ren (out ν N0 N) x = shift N0 N x := by
  cases x
  case tup l =>
    simp only [ren, shift]
    congr 1
    apply List.map_congr_left
    intro y hy
    exact fresh1A_ren (List.all_eq_true.1 h y hy)
  all_goals exact fresh1A_ren (N0 := N0) (N := N) (ν := ν) (by simpa only [freshA] using h)
theorem call_news {P : Program} {f : FuncId} {args : List AV} {σ : List AB} {K : AV → List AB → Prop} (S : List Sl) (hS : ∀ s ∈ S, s.ok σ) (args0 : (Nat → Nat) → List AV) (G : AV → List AB → Prop)
    (h : ∀ c, CallWp P f (args0 c) (slBl S) fun x σ' => ∃ τ, σ' = slBl S ++ τ ∧ G x τ) (hG : ∀ x τ, G x τ → τ.all plainRw = true ∧ freshA S.length x = true)
    (ha : ∀ ν c, slArgs ν c 0 S → seesL ν args (args0 c)) (hb : ∀ c, (args0 c).all (below1 S.length) = true) (hk : ∀ x τ, G x τ → K (shift S.length σ.length x) (σ ++ τ)) : CallWp P f args σ K := by
  obtain ⟨m, c, h1, h2, h3⟩ := rds_fit hS 0
  simp only [Nat.zero_add] at h1 h2 h3
  have hlen : (slBl S).length = S.length := by simp [slBl]
  refine call_frame (ν := m) (h c) (rds_all (fun _ _ => rfl) h3) ?_ ?_ (ha m c (h2 m fun _ _ => rfl)) ?_
  · intro n hn; exact h1 n (by simpa [slBl] using hn)
  · simpa [slBl] using hb c
  · rintro x σ' hl ⟨τ, rfl, hg⟩
    obtain ⟨hτ, hx⟩ := hG x τ hg
    refine ⟨?_, ?_⟩
    · intro n B hn hlt
      by_cases hn' : n < (slBl S).length
      · obtain ⟨B0, hB0, hrw⟩ := hlt hn'
        unfold slBl at hB0
        rw [List.getElem?_map] at hB0
        cases hs : S[n]? with
        | none => rw [hs] at hB0; cases hB0
        | some s => rw [hs] at hB0; simp only [Option.map_some, Option.some.injEq] at hB0; subst hB0; cases hrw
      · rw [List.getElem?_append_right (by omega)] at hn
        have := List.all_eq_true.1 hτ B (List.mem_of_getElem? hn)
        cases B <;> first | rfl | cases this
    · have e1 : plug m σ (slBl S) (slBl S ++ τ) = σ ++ τ := by
        rw [plug, updL_ro, List.drop_left', plain_map hτ]
        rfl
      rw [e1, hlen, freshA_ren hx]
      exact hk x τ hg
/-! ### blocks kept under other names, named by others that are kept -/
section
variable {σ E R G E1 G1 : List AB} {νE νG : List (Bool × Nat)}
end
theorem Wk.trans {L0 nt : Nat} {s1 s2 s3 : St} (h : Wk L0 nt s1 s2) (h' : Wk L0 nt s2 s3) : Wk L0 nt s1 s3 := by
  intro F ρ a w hL hs
  obtain ⟨ρ1, h1, h2, h3⟩ := h F ρ a w hL hs
  obtain ⟨ρ2, h4, h5, h6⟩ := h' F ρ1 a w h2 h3
  exact ⟨ρ2, fun n hn => (h4 n hn).trans (h1 n hn), h5, h6⟩
end Go.Abs
