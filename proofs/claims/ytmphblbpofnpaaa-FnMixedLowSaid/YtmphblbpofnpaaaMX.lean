import Derived.Test.YtmphblbpofnpaaaMM
import Derived.Test.YtmphblbpofnpaaaM21
import Derived.Test.YtmphblbpofnpaaaM22
import Derived.Test.YtmphblbpofnpaaaM15
namespace Go.Ds
structure MTask where
  Lo : Int
  Hi : Int
  P : Int
  V : Bool
  deriving DecidableEq, Inhabited
def gM (S : List MTask) (k : Int) : MTask := S.getD k.toNat default
def MTask.ok (t : MTask) : Prop := (1 ≤ t.Lo ∧ t.Lo ≤ 8) ∧ (t.Lo ≤ t.Hi ∧ t.Hi ≤ t.P) ∧ t.P ≤ 12 ∧ (t.V = false → t.Hi = t.Lo)
instance (t : MTask) : Decidable t.ok := by unfold MTask.ok; infer_instance
def mixOk (S : List MTask) : Prop := S.length ≤ 5 ∧ ∀ t ∈ S, t.ok
instance (S : List MTask) : Decidable (mixOk S) := by unfold mixOk; infer_instance
theorem gM_nat {S : List MTask} {k : Nat} (h : k < S.length) : gM S k = S[k] := by simp [gM, List.getD_eq_getElem?_getD, h]
theorem gM_ok {S : List MTask} (h : mixOk S) {k : Int} (h0 : 0 ≤ k) (h1 : k < S.length) : (gM S k).ok := by
  obtain ⟨q, rfl⟩ := Int.eq_ofNat_of_zero_le h0
  rw [gM_nat (by omega)]
  exact h.2 _ (List.getElem_mem _)
def qOf {ι : Type} (L : List Job) (pick : ι → Nat → List Int → Int × ι) (s0 : ι) (now : Nat) (done : List Int) : Int := (pick (sim L pick s0 now).st now done).1
theorem sim_q {ι : Type} {L : List Job} {pick : ι → Nat → List Int → Int × ι} {s0 : ι} : ∀ k : Nat, (sim L pick s0 k).done = (simU L (qOf L pick s0) k).done ∧ (sim L pick s0 k).run = (simU L (qOf L pick s0) k).run ∧ (sim L pick s0 k).fin = (simU L (qOf L pick s0) k).fin
  | 0 => ⟨rfl, rfl, rfl⟩
  | k + 1 => by
    obtain ⟨h1, h2, h3⟩ := sim_q (L := L) (pick := pick) (s0 := s0) k
    rw [simU_succ]
    simp only [sim, tick]
    have e : qOf L pick s0 k (simU L (qOf L pick s0) k).done = (pick (sim L pick s0 k).st k (sim L pick s0 k).done).1 := by rw [← h1]; rfl
    rw [e, ← h1, ← h2, ← h3]
    split <;> exact ⟨rfl, rfl, rfl⟩
theorem sim_st {ι : Type} {L : List Job} {pick : ι → Nat → List Int → Int × ι} {s0 : ι} (k : Nat) : (sim L pick s0 (k + 1)).st = (pick (sim L pick s0 k).st k (sim L pick s0 k).done).2 := by
  simp only [sim, tick]; split <;> rfl
/-- The state of a mixed system. -/
structure MSt where
  high : Bool
  frm : Int
  first : Int
def vitJ (S : List MTask) (L : List Job) (i : Nat) : Bool := (gM S (L.getD i default).T).V
def lowOk (S : List MTask) (L : List Job) (frm : Int) (i : Nat) : Bool := vitJ S L i || decide (frm ≤ (L.getD i default).R)
def mixKey (S : List MTask) (nu de : Int) (L : List Job) (i : Nat) : Int := if vitJ S L i = true then (L.getD i default).R * de + (gM S (L.getD i default).T).P * nu else (L.getD i default).D * de
def vitBest (S : List MTask) (L : List Job) (now : Nat) (done : List Int) : Int := bestF L.length (fun i => readyJ L done now i && vitJ S L i) (keyD L)
def lowBest (S : List MTask) (nu de : Int) (L : List Job) (frm : Int) (now : Nat) (done : List Int) : Int := bestF L.length (fun i => readyJ L done now i && lowOk S L frm i) (mixKey S nu de L)
def overJ (S : List MTask) (L : List Job) (done : List Int) (i : Int) : Prop := 0 ≤ i ∧ vitJ S L i.toNat = true ∧ gI done i + 1 = (gM S (L.getD i.toNat default).T).Lo ∧ gI done i + 1 < (L.getD i.toNat default).E
instance (S : List MTask) (L : List Job) (done : List Int) (i : Int) : Decidable (overJ S L done i) := by unfold overJ; infer_instance
def frmOf (st : MSt) (now : Nat) : Int := if st.high = true then (now : Int) else st.frm
def mixPick (S : List MTask) (nu de : Int) (L : List Job) (st : MSt) (now : Nat) (done : List Int) : Int × MSt :=
  if st.high = true ∧ 0 ≤ vitBest S L now done then (vitBest S L now done, st)
  else if overJ S L done (lowBest S nu de L (frmOf st now) now done) then (lowBest S nu de L (frmOf st now) now done, ⟨true, frmOf st now, if st.first < 0 then (now : Int) + 1 else st.first⟩)
  else (lowBest S nu de L (frmOf st now) now done, ⟨false, frmOf st now, st.first⟩)
def mix0 : MSt := ⟨false, 0, -1⟩
abbrev mixS (S : List MTask) (nu de : Int) (L : List Job) (k : Nat) : Sch MSt := sim L (mixPick S nu de L) mix0 k
abbrev mixQ (S : List MTask) (nu de : Int) (L : List Job) : Nat → List Int → Int := qOf L (mixPick S nu de L) mix0
def mixRun (S : List MTask) (nu de : Int) (L : List Job) : List Int := (mixS S nu de L 120).run
def mixFin (S : List MTask) (nu de : Int) (L : List Job) : List Int := (mixS S nu de L 120).fin
def mixSw (S : List MTask) (nu de : Int) (L : List Job) : Int := (mixS S nu de L 120).st.first
theorem vit_fair (S : List MTask) (L : List Job) (now : Nat) (done : List Int) : vitBest S L now done = -1 ∨ ∃ n : Nat, vitBest S L now done = n ∧ n < L.length ∧ readyJ L done now n = true :=
  best_fair fun i h => by rw [Bool.and_eq_true] at h; exact h.1
theorem low_fair (S : List MTask) (nu de : Int) (L : List Job) (frm : Int) (now : Nat) (done : List Int) : lowBest S nu de L frm now done = -1 ∨ ∃ n : Nat, lowBest S nu de L frm now done = n ∧ n < L.length ∧ readyJ L done now n = true :=
  best_fair fun i h => by rw [Bool.and_eq_true] at h; exact h.1
theorem pick_fairM (S : List MTask) (nu de : Int) (L : List Job) (st : MSt) (now : Nat) (done : List Int) : (mixPick S nu de L st now done).1 = -1 ∨ ∃ n : Nat, (mixPick S nu de L st now done).1 = n ∧ n < L.length ∧ readyJ L done now n = true := by
  unfold mixPick
  split
  · exact vit_fair S L now done
  · split <;> exact low_fair S nu de L _ now done
theorem mix_fair (S : List MTask) (nu de : Int) (L : List Job) : Fair L (mixQ S nu de L) := fun now done => pick_fairM S nu de L _ now done
theorem bestF_key {ok : Nat → Bool} {key key' : Nat → Int} (h : ∀ i j, ok i = true → ok j = true → (key i < key j ↔ key' i < key' j)) : ∀ n, bestF n ok key = bestF n ok key'
  | 0 => rfl
  | n + 1 => by
    rw [bestF_succ, bestF_succ, bestF_key h n]
    rcases bestF_spec ok key' n with ⟨e, _⟩ | ⟨k, e, hk, hok, _⟩
    · rw [e]
      by_cases h1 : ok n = true
      · rw [if_pos ⟨h1, .inl (by omega)⟩, if_pos ⟨h1, .inl (by omega)⟩]
      · rw [if_neg fun hh => h1 hh.1, if_neg fun hh => h1 hh.1]
    · rw [e]
      by_cases h1 : ok n = true
      · have h2 := h n k h1 hok
        simp only [Int.toNat_natCast]
        by_cases h3 : key n < key k
        · rw [if_pos ⟨h1, .inr h3⟩, if_pos ⟨h1, .inr (h2.1 h3)⟩]
        · rw [if_neg (fun hh => hh.2.elim (fun h4 => by omega) h3), if_neg (fun hh => hh.2.elim (fun h4 => by omega) (fun h4 => h3 (h2.2 h4)))]
      · rw [if_neg fun hh => h1 hh.1, if_neg fun hh => h1 hh.1]
def LowInv (S : List MTask) (L : List Job) (st : MSt) (done : List Int) : Prop := st.high = true ∨ ∀ i, i < L.length → vitJ S L i = true → gI done i < (gM S (L.getD i default).T).Lo ∨ gI done i = (L.getD i default).E
/-- What a run keeps. -/
structure MixInv (S : List MTask) (nu de : Int) (L : List Job) (k : Nat) : Prop where
  len : (mixS S nu de L k).done.length = L.length
  pos : ∀ i, i < L.length → 0 ≤ gI (mixS S nu de L k).done i ∧ gI (mixS S nu de L k).done i ≤ (L.getD i default).E
  rel : ∀ i, i < L.length → 0 < gI (mixS S nu de L k).done i → (L.getD i default).R ≤ k
  frm : 0 ≤ (mixS S nu de L k).st.frm ∧ (mixS S nu de L k).st.frm ≤ k
  low : LowInv S L (mixS S nu de L k).st (mixS S nu de L k).done
theorem mix_done_eq (S : List MTask) (nu de : Int) (L : List Job) (k : Nat) : (mixS S nu de L k).done = (simU L (mixQ S nu de L) k).done := (sim_q k).1
theorem over_high {S : List MTask} {nu de : Int} {L : List Job} {st : MSt} {now : Nat} {done : List Int} (h : (mixPick S nu de L st now done).2.high = false) : ¬ overJ S L done (mixPick S nu de L st now done).1 ∧ ¬ (st.high = true ∧ 0 ≤ vitBest S L now done) := by
  unfold mixPick at h ⊢
  split at h
  · rename_i h1; simp only at h; rw [h] at h1; simp at h1
  · rename_i h1
    split at h
    · simp at h
    · rename_i h2
      rw [if_neg h1, if_neg h2]
      exact ⟨h2, h1⟩
theorem mix_inv {S : List MTask} {nu de : Int} {L : List Job} (hE : ∀ j ∈ L, 1 ≤ j.E) (hLo : ∀ i, i < L.length → 1 ≤ (gM S (L.getD i default).T).Lo) : ∀ k : Nat, MixInv S nu de L k
  | 0 => by
    have h0 : ∀ i, i < L.length → gI (mixS S nu de L 0).done i = 0 := fun i hi => gI_rep _ _ _ hi
    have hEi : ∀ i, i < L.length → 1 ≤ (L.getD i default).E := fun i hi => by
      rw [show L.getD i default = L[i] by simp [List.getD_eq_getElem?_getD, hi]]; exact hE _ (List.getElem_mem hi)
    exact ⟨by simp [mixS, sim], fun i hi => by have := hEi i hi; rw [h0 i hi]; omega, fun i hi h => by rw [h0 i hi] at h; omega, by simp [mixS, sim, mix0], .inr fun i hi _ => .inl (by have := hLo i hi; rw [h0 i hi]; omega)⟩
  | k + 1 => by
    have ih := mix_inv (nu := nu) (de := de) hE hLo k
    have hf := mix_fair S nu de L
    have hre := reach hf hE (k + 1)
    rw [← mix_done_eq] at hre
    refine ⟨(sim_lens (k + 1)).1, fun i hi => (hre i hi).1, fun i hi => (hre i hi).2, ?_, ?_⟩
    · rw [sim_st]
      have h1 := ih.frm
      have h2 : 0 ≤ frmOf (mixS S nu de L k).st k ∧ frmOf (mixS S nu de L k).st k ≤ k := by
        unfold frmOf; split <;> omega
      generalize (mixS S nu de L k).st = st at h1 h2 ⊢
      generalize (mixS S nu de L k).done = done
      unfold mixPick
      split
      · simp only; omega
      · split <;> (simp only; omega)
    · unfold LowInv
      rw [sim_st]
      cases hh : (mixPick S nu de L (mixS S nu de L k).st k (mixS S nu de L k).done).2.high with
      | true => exact .inl rfl
      | false =>
        refine .inr fun i hi hv => ?_
        obtain ⟨hno, hnb⟩ := over_high hh
        -- before the tick
        have hpre : gI (mixS S nu de L k).done i < (gM S (L.getD i default).T).Lo ∨ gI (mixS S nu de L k).done i = (L.getD i default).E := by
          rcases ih.low with h1 | h1
          · rcases vit_fair S L k (mixS S nu de L k).done with e | ⟨n, e, _⟩
            · rcases bestF_spec (fun i => readyJ L (mixS S nu de L k).done k i && vitJ S L i) (keyD L) L.length with ⟨_, g⟩ | ⟨m, g, _⟩
              · have h2 := g i hi
                rw [hv, Bool.and_true] at h2
                unfold readyJ at h2
                rw [decide_eq_false_iff_not] at h2
                have h3 := ih.pos i hi
                have h4 := ih.rel i hi
                have h5 := hLo i hi
                omega
              · unfold vitBest at e; omega
            · exact absurd ⟨h1, by rw [e]; omega⟩ hnb
          · exact h1 i hi hv
        have hstep : (mixS S nu de L (k + 1)).done = if (mixPick S nu de L (mixS S nu de L k).st k (mixS S nu de L k).done).1 < 0 then (mixS S nu de L k).done else (mixS S nu de L k).done.set (mixPick S nu de L (mixS S nu de L k).st k (mixS S nu de L k).done).1.toNat (gI (mixS S nu de L k).done (mixPick S nu de L (mixS S nu de L k).st k (mixS S nu de L k).done).1.toNat + 1) := by
          simp only [mixS, sim, tick]; split <;> rfl
        rw [hstep]
        have hl := ih.len
        rcases pick_fairM S nu de L (mixS S nu de L k).st k (mixS S nu de L k).done with e | ⟨n, e, hn, hr⟩
        · rw [if_pos (by omega)]; exact hpre
        · rw [e] at hno ⊢
          rw [if_neg (by omega), Int.toNat_natCast, gI_set (by omega)]
          split
          · rename_i hni
            subst hni
            unfold overJ at hno
            rw [Int.toNat_natCast] at hno
            unfold readyJ at hr
            rw [decide_eq_true_eq] at hr
            have h1 : ¬ (gI (mixS S nu de L k).done n + 1 = (gM S (L.getD n default).T).Lo ∧ gI (mixS S nu de L k).done n + 1 < (L.getD n default).E) := fun hh => hno ⟨by omega, hv, hh⟩
            omega
          · exact hpre
end Go.Ds
/- The plain law: mixed criticality: legal patterns; the factor of the deadlines. Definitions in plain Lean; no program in sight. -/
namespace Go.Ds
def hiOf (S : List MTask) (t : Int) : Int := (gM S t).Hi
def perM (S : List MTask) (t : Int) : Int := (gM S t).P
def mixLegal (S : List MTask) (L : List Job) : Prop := mixOk S ∧ orderedP S.length (hiOf S) L ∧ spacedP Job.R (perM S) L ∧ ∀ j ∈ L, j.D = j.R + perM S j.T
noncomputable instance (S : List MTask) (L : List Job) : Decidable (mixLegal S L) := Classical.propDecidable _
def plainS (S : List MTask) : List Task := S.map fun t => ⟨1, t.P, t.P⟩
def shortJ (j : Job) : Job := ⟨j.T, j.R, j.D, 1⟩
def shortL (L : List Job) : List Job := L.map shortJ
theorem plain_ok {S : List MTask} (h : mixOk S) : setOk (plainS S) := by
  refine ⟨by simpa [plainS] using h.1, fun t ht => ?_⟩
  obtain ⟨x, hx, rfl⟩ := List.mem_map.1 ht
  have := h.2 x hx
  unfold MTask.ok at this
  unfold Task.ok
  simp only
  omega
theorem plain_gT {S : List MTask} {k : Int} (h0 : 0 ≤ k) (h1 : k < S.length) : gT (plainS S) k = ⟨1, (gM S k).P, (gM S k).P⟩ := by
  obtain ⟨q, rfl⟩ := Int.eq_ofNat_of_zero_le h0
  have hq : q < S.length := by omega
  rw [gM_nat hq, gT_nat (show q < (plainS S).length by simpa [plainS] using hq)]
  simp [plainS]
theorem lastAt_short {L : List Job} {t : Int} : lastAt Job.R (shortL L) t = lastAt Job.R L t := by
  unfold lastAt shortL
  rw [List.foldl_map]
  rfl
theorem legal_short {S : List MTask} (hS : mixOk S) {L : List Job} (hT : ∀ j ∈ L, (0 ≤ j.T ∧ j.T < S.length) ∧ 1 ≤ j.E ∧ j.E ≤ hiOf S j.T) : mixLegal S L ↔ jobsLegal (plainS S) (shortL L) := by
  have hlen : (plainS S).length = S.length := by simp [plainS]
  have hget : ∀ k (h : k < L.length), (shortL L)[k]'(by simpa [shortL] using h) = shortJ L[k] := fun k h => by simp [shortL]
  have hl : (shortL L).length = L.length := by simp [shortL]
  have hgt : ∀ j ∈ L, gT (plainS S) j.T = ⟨1, (gM S j.T).P, (gM S j.T).P⟩ := fun j hj => plain_gT (hT j hj).1.1 (hT j hj).1.2
  have hord : orderedP S.length (hiOf S) L ↔ orderedP (plainS S).length (costOf (plainS S)) (shortL L) := by
    unfold orderedP
    constructor
    · rintro ⟨h60, h⟩
      refine ⟨by omega, fun k hk => ?_⟩
      have hk' : k < L.length := by omega
      have := h k hk'
      have h2 := hT _ (List.getElem_mem hk')
      have h3 : costOf (plainS S) L[k].T = 1 := by unfold costOf; rw [hgt _ (List.getElem_mem hk')]
      unfold jrowAt at this ⊢
      simp only [hget k hk', hget (k - 1) (by omega), shortJ, h3, hlen]
      refine ⟨this.1, this.2.1, ⟨by omega, by omega⟩, this.2.2.2⟩
    · rintro ⟨h60, h⟩
      refine ⟨by omega, fun k hk => ?_⟩
      have := h k (by omega)
      have h2 := hT _ (List.getElem_mem hk)
      unfold jrowAt at this ⊢
      simp only [hget k hk, hget (k - 1) (by omega), shortJ, hlen] at this
      exact ⟨this.1, this.2.1, h2.2, this.2.2.2⟩
  have hsp : spacedP Job.R (perM S) L ↔ spacedP Job.R (perOf (plainS S)) (shortL L) := by
    unfold spacedP
    have key : ∀ k (hk : k < L.length), gapAt Job.R (perM S) L k hk ↔ gapAt Job.R (perOf (plainS S)) (shortL L) k (by omega) := fun k hk => by
      unfold gapAt
      have e1 : (shortL L).take k = shortL (L.take k) := by simp [shortL, List.map_take]
      have e2 : perOf (plainS S) L[k].T = perM S L[k].T := by unfold perOf; rw [hgt _ (List.getElem_mem hk)]; rfl
      rw [e1, hget k hk, lastAt_short]
      show (∀ b, lastAt Job.R (L.take k) L[k].T = some b → perM S L[k].T ≤ L[k].R - b) ↔ (∀ b, lastAt Job.R (L.take k) L[k].T = some b → perOf (plainS S) L[k].T ≤ L[k].R - b)
      rw [e2]
    exact ⟨fun h k hk => (key k (by omega)).1 (h k (by omega)), fun h k hk => (key k hk).2 (h k (by omega))⟩
  have hdl : (∀ j ∈ L, j.D = j.R + perM S j.T) ↔ ∀ j ∈ shortL L, j.D = j.R + (gT (plainS S) j.T).D := by
    constructor
    · intro h j hj
      obtain ⟨x, hx, rfl⟩ := List.mem_map.1 hj
      have h1 := h x hx
      show x.D = x.R + (gT (plainS S) x.T).D
      rw [hgt x hx]; exact h1
    · intro h j hj
      have h1 := h (shortJ j) (List.mem_map.2 ⟨j, hj, rfl⟩)
      change j.D = j.R + (gT (plainS S) j.T).D at h1
      rw [hgt j hj] at h1; exact h1
  unfold mixLegal jobsLegal
  rw [hord, hsp, hdl]
  exact ⟨fun h => ⟨plain_ok hS, h.2⟩, fun h => ⟨hS, h.2⟩⟩
theorem mixLegal.jobs {S : List MTask} {L : List Job} (h : mixLegal S L) : (∀ j ∈ L, (0 ≤ j.T ∧ j.T < S.length) ∧ 1 ≤ j.E ∧ j.E ≤ hiOf S j.T) ∧ jobsLegal (plainS S) (shortL L) := by
  have h1 : ∀ j ∈ L, (0 ≤ j.T ∧ j.T < S.length) ∧ 1 ≤ j.E ∧ j.E ≤ hiOf S j.T := fun j hj => ⟨(h.2.1.mem hj).1, (h.2.1.mem hj).2.2⟩
  exact ⟨h1, (legal_short h.1 h1).1 h⟩
def uLow (S : List MTask) (H : Int) : Int := S.foldl (fun a t => a + if t.V = true then 0 else t.Lo * (H / t.P)) 0
def uVit (S : List MTask) (H : Int) : Int := S.foldl (fun a t => a + if t.V = true then t.Lo * (H / t.P) else 0) 0
def uHigh (S : List MTask) (H : Int) : Int := S.foldl (fun a t => a + if t.V = true then t.Hi * (H / t.P) else 0) 0
def hyperM (S : List MTask) : Nat := hyperN (plainS S)
def scaleAt (a b c H : Int) : Option (Int × Int) :=
  if a + c ≤ H then some (1, 1)
  else if a < H ∧ 0 < b ∧ b ≤ H - a ∧ b * a + c * (H - a) ≤ H * (H - a) then some (b / (Nat.gcd b.toNat (H - a).toNat : Nat), (H - a) / (Nat.gcd b.toNat (H - a).toNat : Nat)) else none
def scaleOf (S : List MTask) : Option (Int × Int) := scaleAt (uLow S 27720) (uVit S 27720) (uHigh S 27720) 27720
theorem scaleAt_mul {a b c H q : Int} (hq : 1 ≤ q) (hb : 0 ≤ b) (hH : 1 ≤ H) : scaleAt (a * q) (b * q) (c * q) (H * q) = scaleAt a b c H := by
  have hmul : ∀ x y : Int, x * q ≤ y * q ↔ x ≤ y := fun x y => ⟨fun h => Int.le_of_mul_le_mul_right h (by omega), fun h => Int.mul_le_mul_of_nonneg_right h (by omega)⟩
  have hmul2 : ∀ x y : Int, x * q < y * q ↔ x < y := fun x y => ⟨fun h => Int.lt_of_mul_lt_mul_right h (by omega), fun h => Int.mul_lt_mul_of_pos_right h (by omega)⟩
  have e1 : a * q + c * q = (a + c) * q := (Int.add_mul ..).symm
  have e2 : H * q - a * q = (H - a) * q := (Int.sub_mul ..).symm
  have e3 : (b * q) * (a * q) + (c * q) * ((H - a) * q) = ((b * a + c * (H - a)) * q) * q := by
    rw [Int.add_mul, Int.add_mul]
    congr 1 <;> ac_rfl
  have e4 : (H * q) * ((H - a) * q) = ((H * (H - a)) * q) * q := by ac_rfl
  have e5 : 0 < b * q ↔ 0 < b := by have := hmul2 0 b; rwa [Int.zero_mul] at this
  unfold scaleAt
  simp only [e1, e2, e3, e4, hmul, hmul2, e5]
  by_cases h1 : a + c ≤ H
  · rw [if_pos h1, if_pos h1]
  rw [if_neg h1, if_neg h1]
  by_cases h2 : a < H ∧ 0 < b ∧ b ≤ H - a ∧ b * a + c * (H - a) ≤ H * (H - a)
  · rw [if_pos h2, if_pos h2]
    obtain ⟨bn, rfl⟩ := Int.eq_ofNat_of_zero_le hb
    obtain ⟨x, hx⟩ := Int.eq_ofNat_of_zero_le (show 0 ≤ H - a by omega)
    obtain ⟨qn, rfl⟩ := Int.eq_ofNat_of_zero_le (show 0 ≤ q by omega)
    rw [hx]
    have g1 : ((bn : Int) * (qn : Int)).toNat = bn * qn := by rw [← Int.natCast_mul, Int.toNat_natCast]
    have g2 : ((x : Int) * (qn : Int)).toNat = x * qn := by rw [← Int.natCast_mul, Int.toNat_natCast]
    rw [g1, g2, Int.toNat_natCast, Int.toNat_natCast, Nat.gcd_mul_right]
    have hg : 0 < Nat.gcd bn x := Nat.gcd_pos_of_pos_left _ (by omega)
    rw [Int.natCast_mul]
    rw [Int.mul_ediv_mul_of_pos_left _ _ (show (0 : Int) < qn by omega), Int.mul_ediv_mul_of_pos_left _ _ (show (0 : Int) < qn by omega)]
  · rw [if_neg h2, if_neg h2]
theorem foldl_scale {f g : MTask → Int} {q : Int} : ∀ (S : List MTask) (x : Int), (∀ t ∈ S, f t = g t * q) → S.foldl (fun a t => a + f t) (x * q) = S.foldl (fun a t => a + g t) x * q
  | [], x, _ => rfl
  | t :: S, x, h => by
    simp only [List.foldl_cons]
    rw [h t (by simp), ← Int.add_mul]
    exact foldl_scale S _ fun t ht => h t (by simp [ht])
theorem scale_lcm {S : List MTask} (hS : mixOk S) : scaleAt (uLow S (hyperM S)) (uVit S (hyperM S)) (uHigh S (hyperM S)) (hyperM S) = scaleOf S := by
  have hd := hyperN_dvd (plain_ok hS) (plainS S).length (Nat.le_refl _)
  rw [List.take_length] at hd
  have hpos := (hyperN_bound (plain_ok hS) (Nat.le_refl (plainS S).length)).1
  rw [List.take_length] at hpos
  obtain ⟨q, hq⟩ := hd.1
  have hq1 : 1 ≤ q := by
    rcases Nat.eq_zero_or_pos q with rfl | h
    · omega
    · exact h
  have hdiv : ∀ t ∈ S, (27720 : Int) / t.P = (hyperM S : Int) / t.P * q := fun t ht => by
    obtain ⟨i, hi, rfl⟩ := List.getElem_of_mem ht
    have hi' : i < (plainS S).length := by simpa [plainS] using hi
    have h1 := hd.2 i hi' hi'
    have h2 : (plainS S)[i].P = S[i].P := by simp [plainS]
    rw [h2] at h1
    have hok := hS.2 _ (List.getElem_mem hi)
    unfold MTask.ok at hok
    obtain ⟨p, hp⟩ := Int.eq_ofNat_of_zero_le (show 0 ≤ S[i].P by omega)
    rw [hp, Int.toNat_natCast] at h1
    obtain ⟨z, hz⟩ := h1
    rw [hp]
    have e : (27720 : Int) = ((p : Int) * z) * q := by
      rw [show (27720 : Int) = ((27720 : Nat) : Int) from rfl, hq, hz]
      simp [Int.natCast_mul]
    have e' : (hyperM S : Int) = (p : Int) * z := by unfold hyperM; rw [hz]; simp [Int.natCast_mul]
    rw [e, e', Int.mul_assoc, Int.mul_ediv_cancel_left _ (show (p : Int) ≠ 0 by omega), Int.mul_ediv_cancel_left _ (show (p : Int) ≠ 0 by omega)]
  have hH : (27720 : Int) = (hyperM S : Int) * q := by
    rw [show (27720 : Int) = ((27720 : Nat) : Int) from rfl, hq, Int.natCast_mul]; rfl
  have a1 : uLow S 27720 = uLow S (hyperM S) * q := by
    have := foldl_scale (f := fun t => if t.V = true then 0 else t.Lo * (27720 / t.P)) (g := fun t => if t.V = true then 0 else t.Lo * ((hyperM S : Int) / t.P)) (q := q) S 0 (fun t ht => by
      split
      · simp
      · rw [hdiv t ht, Int.mul_assoc])
    rwa [Int.zero_mul] at this
  have a2 : uVit S 27720 = uVit S (hyperM S) * q := by
    have := foldl_scale (f := fun t => if t.V = true then t.Lo * (27720 / t.P) else 0) (g := fun t => if t.V = true then t.Lo * ((hyperM S : Int) / t.P) else 0) (q := q) S 0 (fun t ht => by
      split
      · rw [hdiv t ht, Int.mul_assoc]
      · simp)
    rwa [Int.zero_mul] at this
  have a3 : uHigh S 27720 = uHigh S (hyperM S) * q := by
    have := foldl_scale (f := fun t => if t.V = true then t.Hi * (27720 / t.P) else 0) (g := fun t => if t.V = true then t.Hi * ((hyperM S : Int) / t.P) else 0) (q := q) S 0 (fun t ht => by
      split
      · rw [hdiv t ht, Int.mul_assoc]
      · simp)
    rwa [Int.zero_mul] at this
  have hnn : ∀ (T : List MTask) (x : Int), (∀ t ∈ T, t ∈ S) → 0 ≤ x → 0 ≤ T.foldl (fun a t => a + if t.V = true then t.Lo * ((hyperM S : Int) / t.P) else 0) x := by
    intro T
    induction T with
    | nil => intro x _ h; exact h
    | cons t T ih =>
      intro x hT hx
      simp only [List.foldl_cons]
      refine ih _ (fun t ht => hT t (by simp [ht])) ?_
      have hok := hS.2 t (hT t (by simp))
      unfold MTask.ok at hok
      have : 0 ≤ (hyperM S : Int) / t.P := Int.ediv_nonneg (by omega) (by omega)
      split
      · have := Int.mul_nonneg (show 0 ≤ t.Lo by omega) this; omega
      · omega
  unfold scaleOf
  rw [a1, a2, a3]
  have := scaleAt_mul (a := uLow S (hyperM S)) (b := uVit S (hyperM S)) (c := uHigh S (hyperM S)) (H := hyperM S) (q := q) (by omega) (hnn S 0 (fun t ht => ht) (Int.le_refl _)) (by unfold hyperM; omega)
  rw [← hH] at this
  exact this.symm
end Go.Ds
/- The plain law: mixed criticality: what is left of the jobs, as the reference counts it. Definitions in plain Lean; no program in sight. -/
namespace Go.Ds
def dropJ (S : List MTask) (L : List Job) (frm : Int) (i : Nat) : Bool := !vitJ S L i && decide ((L.getD i default).R < frm)
def leftM (S : List MTask) (L : List Job) (frm : Int) (done : List Int) : List Int := (List.range L.length).map fun i => if dropJ S L frm i = true then 0 else (L.getD i default).E - gI done i
theorem leftM_len (S : List MTask) (L : List Job) (frm : Int) (done : List Int) : (leftM S L frm done).length = L.length := by simp [leftM]
theorem leftM_get {S : List MTask} {L : List Job} {frm : Int} {done : List Int} {i : Nat} (h : i < (leftM S L frm done).length) : (leftM S L frm done)[i] = if dropJ S L frm i = true then 0 else (L.getD i default).E - gI done i := by simp [leftM]
theorem leftM_gI {S : List MTask} {L : List Job} {frm : Int} {done : List Int} {i : Nat} (h : i < L.length) : gI (leftM S L frm done) i = if dropJ S L frm i = true then 0 else (L.getD i default).E - gI done i := by
  have h' : i < (leftM S L frm done).length := by rw [leftM_len]; exact h
  rw [← leftM_get h']
  simp [gI, List.getD_eq_getElem?_getD, h']
theorem leftM_zero {S : List MTask} {L : List Job} (hR : ∀ j ∈ L, 0 ≤ j.R) : leftM S L 0 (List.replicate L.length 0) = L.map Job.E := by
  apply List.ext_getElem
  · simp [leftM]
  · intro i h1 h2
    rw [leftM_get h1]
    rw [leftM_len] at h1
    have gL : L.getD i default = L[i] := by simp [List.getD_eq_getElem?_getD, h1]
    have := hR _ (List.getElem_mem h1)
    rw [if_neg (by unfold dropJ; rw [gL]; simp; omega), gL, gI_rep _ _ _ h1]
    simp
theorem leftM_set {S : List MTask} {L : List Job} {frm : Int} {done : List Int} {k : Nat} (h : k < L.length) (hd : done.length = L.length) (he : dropJ S L frm k = false) : leftM S L frm (done.set k (gI done k + 1)) = (leftM S L frm done).set k (gI (leftM S L frm done) k - 1) := by
  apply List.ext_getElem
  · simp [leftM]
  · intro i h1 h2
    rw [leftM_len] at h1
    rw [leftM_get, List.getElem_set, gI_set (by omega)]
    by_cases e : k = i
    · subst e
      rw [if_pos rfl, if_pos rfl, leftM_gI h, if_neg (by rw [he]; simp), if_neg (by rw [he]; simp)]; omega
    · rw [if_neg e, if_neg e, leftM_get]
def sKey (S : List MTask) (nu de : Int) (L : List Job) (high : Bool) (i : Nat) : Int := if high = true then (L.getD i default).D * de else mixKey S nu de L i
def sOk (S : List MTask) (L : List Job) (Lf : List Int) (high : Bool) (now : Int) (i : Nat) : Bool := decide ((L.getD i default).R ≤ now) && decide (gI Lf i ≠ 0) && (!high || vitJ S L i)
def sBest (S : List MTask) (nu de : Int) (L : List Job) (Lf : List Int) (high : Bool) (now : Nat) : Int := bestF L.length (sOk S L Lf high now) (sKey S nu de L high)
theorem sBest_high {S : List MTask} {nu de : Int} (hde : 0 < de) {L : List Job} {frm : Int} {done : List Int} {now : Nat} (h : ∀ i, i < L.length → gI done i ≤ (L.getD i default).E) : sBest S nu de L (leftM S L frm done) true now = vitBest S L now done := by
  unfold sBest vitBest
  rw [bestF_eq (ok' := fun i => readyJ L done now i && vitJ S L i) (fun i hi => ?_)]
  · refine bestF_key (fun i j _ _ => ?_) _
    unfold sKey keyD
    rw [if_pos rfl, if_pos rfl]
    exact ⟨fun h => Int.lt_of_mul_lt_mul_right h (by omega), fun h => Int.mul_lt_mul_of_pos_right h hde⟩
  · unfold sOk readyJ
    rw [leftM_gI hi]
    have h1 := h i hi
    cases hv : vitJ S L i
    · simp
    · rw [if_neg (by unfold dropJ; rw [hv]; simp)]
      simp only [Bool.not_true, Bool.false_or, Bool.and_true]
      rw [← Bool.decide_and]
      apply decide_eq_decide.2
      omega
theorem sBest_low {S : List MTask} {nu de : Int} {L : List Job} {frm : Int} {done : List Int} {now : Nat} (h : ∀ i, i < L.length → gI done i ≤ (L.getD i default).E) : sBest S nu de L (leftM S L frm done) false now = lowBest S nu de L frm now done := by
  unfold sBest lowBest
  rw [bestF_eq (ok' := fun i => readyJ L done now i && lowOk S L frm i) (fun i hi => ?_)]
  · refine bestF_key (fun i j _ _ => ?_) _
    unfold sKey
    rw [if_neg (by simp), if_neg (by simp)]
  · unfold sOk readyJ lowOk
    rw [leftM_gI hi]
    have h1 := h i hi
    cases hv : vitJ S L i
    · unfold dropJ
      rw [hv]
      by_cases hr : (L.getD i default).R < frm
      · rw [if_pos (by rw [decide_eq_true hr]; rfl)]
        have : ¬ frm ≤ (L.getD i default).R := by omega
        rw [decide_eq_false this]
        simp
      · rw [if_neg (by rw [decide_eq_false hr]; simp)]
        have : frm ≤ (L.getD i default).R := by omega
        simp only [Bool.not_false, Bool.true_or, Bool.and_true, Bool.false_or, decide_eq_true this]
        rw [← Bool.decide_and]
        apply decide_eq_decide.2
        omega
    · rw [if_neg (by unfold dropJ; rw [hv]; simp)]
      simp only [Bool.not_false, Bool.true_or, Bool.and_true]
      rw [← Bool.decide_and]
      apply decide_eq_decide.2
      omega
theorem leftM_drop {S : List MTask} {L : List Job} {frm : Int} {done : List Int} {now : Int} (hf : frm ≤ now) {k : Nat} (hk : k < L.length) :
    ((List.range L.length).map fun i => if i < k + 1 then gI (leftM S L now done) i else gI (leftM S L frm done) i) = if dropJ S L now k = true then ((List.range L.length).map fun i => if i < k then gI (leftM S L now done) i else gI (leftM S L frm done) i).set k 0 else ((List.range L.length).map fun i => if i < k then gI (leftM S L now done) i else gI (leftM S L frm done) i) := by
  apply List.ext_getElem
  · split <;> simp
  · intro i h1 h2
    have hi : i < L.length := by simpa using h1
    have e1 : gI (leftM S L now done) i = if dropJ S L now i = true then 0 else (L.getD i default).E - gI done i := leftM_gI hi
    have e2 : gI (leftM S L frm done) i = if dropJ S L frm i = true then 0 else (L.getD i default).E - gI done i := leftM_gI hi
    have hmono : dropJ S L frm i = true → dropJ S L now i = true := fun h => by
      unfold dropJ at *
      simp only [Bool.and_eq_true, Bool.not_eq_true', decide_eq_true_eq] at *
      exact ⟨h.1, by omega⟩
    split
    · rename_i hd
      simp only [List.getElem_map, List.getElem_range, List.getElem_set]
      by_cases hik : k = i
      · subst hik
        rw [if_pos (by omega), if_pos rfl, e1, if_pos hd]
      · rw [if_neg hik]
        by_cases h3 : i < k
        · rw [if_pos (by omega), if_pos h3]
        · rw [if_neg (by omega), if_neg h3]
    · rename_i hd
      simp only [List.getElem_map, List.getElem_range]
      by_cases hik : i = k
      · subst hik
        rw [if_pos (by omega), if_neg (by omega), e1, e2, if_neg hd, if_neg (fun h => hd (hmono h))]
      · by_cases h3 : i < k
        · rw [if_pos (by omega), if_pos h3]
        · rw [if_neg (by omega), if_neg h3]
theorem leftM_all {L : List Job} {X : List Int} (h : X.length = L.length) : ((List.range L.length).map fun (i : Nat) => gI X i) = X := by
  apply List.ext_getElem
  · simp [h]
  · intro i h1 h2
    simp [gI, List.getD_eq_getElem?_getD, h2]
def stBack (S : List MTask) (L : List Job) (st : MSt) (now : Nat) (done : List Int) : MSt := if st.high = true ∧ vitBest S L now done < 0 then ⟨false, now, st.first⟩ else st
theorem pick_back {S : List MTask} {nu de : Int} {L : List Job} {st : MSt} {now : Nat} {done : List Int} :
    ((stBack S L st now done).high = true → mixPick S nu de L st now done = (vitBest S L now done, stBack S L st now done)) ∧
    ((stBack S L st now done).high = false → mixPick S nu de L st now done = (lowBest S nu de L (stBack S L st now done).frm now done, if overJ S L done (lowBest S nu de L (stBack S L st now done).frm now done) then ⟨true, (stBack S L st now done).frm, if (stBack S L st now done).first < 0 then (now : Int) + 1 else (stBack S L st now done).first⟩ else stBack S L st now done)) := by
  have hb := vit_fair S L now done
  unfold stBack mixPick frmOf
  obtain ⟨hi, fr, fi⟩ := st
  cases hi
  · simp only [Bool.false_eq_true, false_and, if_false]
    refine ⟨fun h => by simp at h, fun _ => ?_⟩
    split <;> rfl
  · simp only [true_and, if_true]
    by_cases h : vitBest S L now done < 0
    · rw [if_pos h, if_neg (by omega)]
      refine ⟨fun h => by simp at h, fun _ => ?_⟩
      split <;> rfl
    · rw [if_neg h, if_pos (by omega)]
      exact ⟨fun _ => rfl, fun h => by simp at h⟩
theorem mix_step {S : List MTask} {nu de : Int} {L : List Job} (k : Nat) {i : Int} {st' : MSt} (h : mixPick S nu de L (mixS S nu de L k).st k (mixS S nu de L k).done = (i, st')) :
    (mixS S nu de L (k + 1)).st = st' ∧ (mixS S nu de L (k + 1)).run = (mixS S nu de L k).run ++ [i] ∧
    (i < 0 → (mixS S nu de L (k + 1)).done = (mixS S nu de L k).done ∧ (mixS S nu de L (k + 1)).fin = (mixS S nu de L k).fin) ∧
    (∀ n : Nat, i = n → (mixS S nu de L (k + 1)).done = (mixS S nu de L k).done.set n (gI (mixS S nu de L k).done n + 1) ∧ (mixS S nu de L (k + 1)).fin = if gI (mixS S nu de L k).done n + 1 = (L.getD n default).E then (mixS S nu de L k).fin.set n (k + 1) else (mixS S nu de L k).fin) := by
  have e : mixS S nu de L (k + 1) = tick L (mixPick S nu de L) k (mixS S nu de L k) := rfl
  rw [e]
  unfold tick
  rw [h]
  simp only
  by_cases hi : i < 0
  · rw [if_pos hi]
    exact ⟨rfl, rfl, fun _ => ⟨rfl, rfl⟩, fun n hn => by omega⟩
  · rw [if_neg hi]
    refine ⟨rfl, rfl, fun h => absurd h hi, fun n hn => ?_⟩
    subst hn
    rw [Int.toNat_natCast]
    exact ⟨rfl, rfl⟩
theorem low_pre {S : List MTask} {nu de : Int} {L : List Job} (hLo : ∀ i, i < L.length → 1 ≤ (gM S (L.getD i default).T).Lo) {k : Nat} (ih : MixInv S nu de L k) (h : (stBack S L (mixS S nu de L k).st k (mixS S nu de L k).done).high = false) {i : Nat} (hi : i < L.length) (hv : vitJ S L i = true) :
    gI (mixS S nu de L k).done i < (gM S (L.getD i default).T).Lo ∨ gI (mixS S nu de L k).done i = (L.getD i default).E := by
  rcases ih.low with h1 | h1
  · by_cases hn : vitBest S L k (mixS S nu de L k).done < 0
    · rcases bestF_spec (fun i => readyJ L (mixS S nu de L k).done k i && vitJ S L i) (keyD L) L.length with ⟨_, g⟩ | ⟨m, g, _⟩
      · have h2 := g i hi
        rw [hv, Bool.and_true] at h2
        unfold readyJ at h2
        rw [decide_eq_false_iff_not] at h2
        have h3 := ih.pos i hi
        have h4 := ih.rel i hi
        have h5 := hLo i hi
        omega
      · unfold vitBest at hn; omega
    · unfold stBack at h
      rw [if_neg fun hh => hn hh.2, h1] at h
      cases h
  · exact h1 i hi hv
theorem pick_elig {S : List MTask} {nu de : Int} {L : List Job} {st : MSt} {now : Nat} {done : List Int} {n : Nat} (h : (mixPick S nu de L st now done).1 = n) : dropJ S L (stBack S L st now done).frm n = false ∧ ((stBack S L st now done).high = true → vitJ S L n = true) := by
  have hb := @pick_back S nu de L st now done
  cases hh : (stBack S L st now done).high
  · rw [hb.2 hh] at h
    simp only at h
    refine ⟨?_, fun h => by simp at h⟩
    rcases bestF_spec (fun i => readyJ L done now i && lowOk S L (stBack S L st now done).frm i) (mixKey S nu de L) L.length with ⟨e, _⟩ | ⟨m, e, _, hok, _⟩
    · unfold lowBest at h; omega
    · unfold lowBest at h
      obtain rfl : n = m := by omega
      rw [Bool.and_eq_true] at hok
      have := hok.2
      unfold lowOk at this
      unfold dropJ
      rw [Bool.or_eq_true, decide_eq_true_eq] at this
      rcases this with h1 | h1
      · rw [h1]; rfl
      · rw [decide_eq_false (by omega), Bool.and_false]
  · rw [hb.1 hh] at h
    simp only at h
    rcases bestF_spec (fun i => readyJ L done now i && vitJ S L i) (keyD L) L.length with ⟨e, _⟩ | ⟨m, e, _, hok, _⟩
    · unfold vitBest at h; omega
    · unfold vitBest at h
      obtain rfl : n = m := by omega
      rw [Bool.and_eq_true] at hok
      exact ⟨by unfold dropJ; rw [hok.2]; rfl, fun _ => hok.2⟩
end Go.Ds
/- The plain law: mixed criticality: what a run shows. Definitions in plain Lean; no program in sight. -/
namespace Go.Ds
theorem mix_E {S : List MTask} {L : List Job} (h : mixLegal S L) : ∀ j ∈ L, 1 ≤ j.E := fun j hj => (h.2.1.mem hj).2.2.1
theorem mixRun_length (S : List MTask) (nu de : Int) (L : List Job) : (mixRun S nu de L).length = 120 := (sim_lens 120).2.2
theorem mixFin_length (S : List MTask) (nu de : Int) (L : List Job) : (mixFin S nu de L).length = L.length := (sim_lens 120).2.1
end Go.Ds
