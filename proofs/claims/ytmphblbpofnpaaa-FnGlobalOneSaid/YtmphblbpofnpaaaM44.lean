import Derived.Test.YtmphblbpofnpaaaMX
import Derived.Test.YtmphblbpofnpaaaMM
namespace Go.Ds
def gNext (L : List Job) (now : Nat) (done : List Int) (o : List Nat) : Int := bestF L.length (fun i => readyJ L done now i && !(o.contains i)) fun i => (L.getD i default).D
def gSel (L : List Job) (now : Nat) (done : List Int) : Nat → List Nat
  | 0 => []
  | n + 1 => if gNext L now done (gSel L now done n) < 0 then gSel L now done n else gSel L now done n ++ [(gNext L now done (gSel L now done n)).toNat]
structure GSt where
  done : List Int
  fin : List Int
def gDo1 (L : List Job) (now : Nat) (s : GSt) (i : Nat) : GSt := ⟨s.done.set i (gI s.done i + 1), if gI s.done i + 1 = (L.getD i default).E then s.fin.set i (now + 1) else s.fin⟩
def gDo (L : List Job) (now : Nat) (r : List Nat) (s : GSt) : GSt := r.foldl (gDo1 L now) s
def gSt (L : List Job) (m : Nat) : Nat → GSt
  | 0 => ⟨List.replicate L.length 0, List.replicate L.length (-1)⟩
  | t + 1 => gDo L t (gSel L t (gSt L m t).done m) (gSt L m t)
def gRow (L : List Job) (m t : Nat) : List Nat := gSel L t (gSt L m t).done m
def gDn (L : List Job) (m t i : Nat) : Int := gI (gSt L m t).done i
def gFin (L : List Job) (m : Nat) : List Int := (gSt L m 120).fin
section
variable {L : List Job} {now : Nat} {done : List Int}
theorem gNext_spec (o : List Nat) : (gNext L now done o = -1 ∧ ∀ i, i < L.length → readyJ L done now i = true → i ∈ o) ∨ ∃ b : Nat, gNext L now done o = b ∧ b < L.length ∧ readyJ L done now b = true ∧ b ∉ o ∧
    (∀ i, i < L.length → readyJ L done now i = true → i ∉ o → (L.getD b default).D ≤ (L.getD i default).D) ∧ ∀ i, i < b → readyJ L done now i = true → i ∉ o → (L.getD b default).D < (L.getD i default).D := by
  rcases bestF_spec (fun i => readyJ L done now i && !(o.contains i)) (fun i => (L.getD i default).D) L.length with ⟨e, h⟩ | ⟨b, e, hb, h1, h2, h3⟩
  · refine .inl ⟨e, fun i hi hr => ?_⟩
    have := h i hi
    simp only [hr, Bool.true_and, Bool.not_eq_false', List.contains_eq_mem, decide_eq_true_eq] at this
    exact this
  · have h1 : (readyJ L done now b && !(o.contains b)) = true := h1
    simp only [Bool.and_eq_true, Bool.not_eq_true', List.contains_eq_mem, decide_eq_false_iff_not] at h1
    refine .inr ⟨b, e, hb, h1.1, h1.2, fun i hi hr ho => ?_, fun i hi hr ho => ?_⟩
    · exact h2 i hi (by simp [hr, ho])
    · have := h3 i hi (by simp [hr, ho])
      exact this
structure SelI (L : List Job) (now : Nat) (done : List Int) (n : Nat) (o : List Nat) : Prop where
  nd : o.Nodup
  lt : ∀ i ∈ o, i < L.length
  rdy : ∀ i ∈ o, readyJ L done now i = true
  len : o.length ≤ n
  full : ∀ i, i < L.length → readyJ L done now i = true → i ∉ o → o.length = n ∧ ∀ j ∈ o, (L.getD j default).D ≤ (L.getD i default).D
theorem sel_inv : ∀ n, SelI L now done n (gSel L now done n)
  | 0 => ⟨List.nodup_nil, by simp [gSel], by simp [gSel], by simp [gSel], fun i _ _ _ => ⟨rfl, by simp [gSel]⟩⟩
  | n + 1 => by
    have ih := sel_inv n
    simp only [gSel]
    rcases gNext_spec (L := L) (now := now) (done := done) (gSel L now done n) with ⟨e, h⟩ | ⟨b, e, hb, hr, hno, hmin, _⟩
    · rw [e, if_pos (by decide)]
      exact ⟨ih.nd, ih.lt, ih.rdy, by have := ih.len; omega, fun i hi hri hio => absurd (h i hi hri) hio⟩
    · rw [e, if_neg (by omega), Int.toNat_natCast]
      refine ⟨?_, ?_, ?_, ?_, ?_⟩
      · rw [List.nodup_append]
        exact ⟨ih.nd, by simp, by intro a ha c hc; simp only [List.mem_singleton] at hc; subst hc; intro h; subst h; exact hno ha⟩
      · intro i hi
        rcases List.mem_append.1 hi with h | h
        · exact ih.lt i h
        · rw [List.mem_singleton.1 h]; exact hb
      · intro i hi
        rcases List.mem_append.1 hi with h | h
        · exact ih.rdy i h
        · rw [List.mem_singleton.1 h]; exact hr
      · rw [List.length_append]; have := ih.len; simp only [List.length_cons, List.length_nil]; omega
      · intro i hi hri hio
        rw [List.mem_append, List.mem_singleton] at hio
        have hio1 : i ∉ gSel L now done n := fun h => hio (.inl h)
        obtain ⟨h1, h2⟩ := ih.full i hi hri hio1
        refine ⟨by rw [List.length_append, h1]; rfl, fun j hj => ?_⟩
        rcases List.mem_append.1 hj with h | h
        · exact h2 j h
        · rw [List.mem_singleton.1 h]; exact hmin i hi hri hio1
theorem gDo_len (r : List Nat) : ∀ s : GSt, (gDo L now r s).done.length = s.done.length ∧ (gDo L now r s).fin.length = s.fin.length := by
  induction r with
  | nil => exact fun s => ⟨rfl, rfl⟩
  | cons a r ih =>
    intro s
    have h := ih (gDo1 L now s a)
    show (gDo L now r (gDo1 L now s a)).done.length = _ ∧ (gDo L now r (gDo1 L now s a)).fin.length = _
    rw [h.1, h.2]
    unfold gDo1
    simp only
    refine ⟨by rw [List.length_set], ?_⟩
    split
    · rw [List.length_set]
    · rfl
theorem gDo_get {r : List Nat} : ∀ {s : GSt}, r.Nodup → (∀ i ∈ r, i < s.done.length ∧ i < s.fin.length) → ∀ i : Nat, gI (gDo L now r s).done i = gI s.done i + (if i ∈ r then 1 else 0) ∧ gI (gDo L now r s).fin i = if i ∈ r ∧ gI s.done i + 1 = (L.getD i default).E then (now : Int) + 1 else gI s.fin i := by
  induction r with
  | nil => intro s _ _ i; simp [gDo]
  | cons a r ih =>
    intro s hn hl i
    have hn2 := List.nodup_cons.1 hn
    have ha := hl a (List.mem_cons_self ..)
    have hlen : (gDo1 L now s a).done.length = s.done.length ∧ (gDo1 L now s a).fin.length = s.fin.length := by
      unfold gDo1
      simp only
      refine ⟨by rw [List.length_set], ?_⟩
      split
      · rw [List.length_set]
      · rfl
    have h := ih (s := gDo1 L now s a) hn2.2 (fun j hj => by rw [hlen.1, hlen.2]; exact hl j (List.mem_cons_of_mem _ hj)) i
    show gI (gDo L now r (gDo1 L now s a)).done i = _ ∧ gI (gDo L now r (gDo1 L now s a)).fin i = _
    rw [h.1, h.2]
    have hd : gI (gDo1 L now s a).done i = gI s.done i + if a = i then 1 else 0 := by
      unfold gDo1
      simp only
      rw [gI_set ha.1]
      split
      · rename_i e; rw [e]
      · omega
    have hf : gI (gDo1 L now s a).fin i = if a = i ∧ gI s.done i + 1 = (L.getD i default).E then (now : Int) + 1 else gI s.fin i := by
      unfold gDo1
      simp only
      by_cases he : gI s.done a + 1 = (L.getD a default).E
      · rw [if_pos he, gI_set ha.2]
        by_cases e : a = i
        · subst e; rw [if_pos rfl, if_pos ⟨rfl, he⟩]
        · rw [if_neg e, if_neg fun g => e g.1]
      · rw [if_neg he, if_neg]
        rintro ⟨e, g⟩; subst e; exact he g
    rw [hd, hf]
    by_cases e : a = i
    · subst e
      have hm : a ∈ a :: r := List.mem_cons_self ..
      simp only [hn2.1, hm, if_true, if_false, true_and, false_and]
      refine ⟨by omega, ?_⟩
      first | trivial | rfl
    · have em : i ∈ a :: r ↔ i ∈ r := by
        rw [List.mem_cons]
        exact ⟨fun h => h.resolve_left fun h2 => e h2.symm, .inr⟩
      simp only [e, em, if_false, false_and, Int.add_zero, and_self]
end
section
variable {L : List Job} {m : Nat}
theorem gSt_len (L : List Job) (m : Nat) : ∀ t : Nat, (gSt L m t).done.length = L.length ∧ (gSt L m t).fin.length = L.length
  | 0 => by simp [gSt]
  | t + 1 => by
    have ih := gSt_len L m t
    have h := gDo_len (L := L) (now := t) (gSel L t (gSt L m t).done m) (gSt L m t)
    exact ⟨h.1.trans ih.1, h.2.trans ih.2⟩
theorem gRow_inv (t : Nat) : SelI L t (gSt L m t).done m (gRow L m t) := sel_inv m
theorem gDn_succ (t : Nat) (i : Nat) : gDn L m (t + 1) i = gDn L m t i + (if i ∈ gRow L m t then 1 else 0) := by
  have h := gRow_inv (L := L) (m := m) t
  have hl := gSt_len L m t
  exact (gDo_get (L := L) (now := t) (s := gSt L m t) h.nd (fun j hj => by have := h.lt j hj; omega) i).1
theorem gFin_succ (t : Nat) (i : Nat) : gI (gSt L m (t + 1)).fin i = if i ∈ gRow L m t ∧ gDn L m t i + 1 = (L.getD i default).E then (t : Int) + 1 else gI (gSt L m t).fin i := by
  have h := gRow_inv (L := L) (m := m) t
  have hl := gSt_len L m t
  exact (gDo_get (L := L) (now := t) (s := gSt L m t) h.nd (fun j hj => by have := h.lt j hj; omega) i).2
theorem gDn_zero {i : Nat} (hi : i < L.length) : gDn L m 0 i = 0 := gI_rep _ _ _ hi
theorem gRow_rdy {t i : Nat} (h : i ∈ gRow L m t) : i < L.length ∧ (L.getD i default).R ≤ t ∧ gDn L m t i < (L.getD i default).E := by
  have h1 := gRow_inv (L := L) (m := m) t
  have h2 := of_decide_eq_true (h1.rdy i h)
  exact ⟨h1.lt i h, h2⟩
/-- What a run keeps. -/
structure GInv (L : List Job) (m t i : Nat) : Prop where
  pos : 0 ≤ gDn L m t i
  le : gDn L m t i ≤ (L.getD i default).E
  rel : 0 < gDn L m t i → (L.getD i default).R < t
  fin : (gDn L m t i < (L.getD i default).E ∧ gI (gSt L m t).fin i = -1) ∨ (gDn L m t i = (L.getD i default).E ∧ 1 ≤ gI (gSt L m t).fin i ∧ gI (gSt L m t).fin i ≤ t)
theorem gFin_keep (hE : ∀ j ∈ L, 1 ≤ j.E) {i t : Nat} (hi : i < L.length) (h : gDn L m t i = (L.getD i default).E) : ∀ k : Nat, gDn L m (t + k) i = (L.getD i default).E ∧ gI (gSt L m (t + k)).fin i = gI (gSt L m t).fin i
  | 0 => ⟨h, rfl⟩
  | k + 1 => by
    have ih := gFin_keep hE hi h k
    have hno : i ∉ gRow L m (t + k) := fun hr => by have := (gRow_rdy hr).2.2; omega
    have hd := gDn_succ (L := L) (m := m) (t + k) i
    have hf := gFin_succ (L := L) (m := m) (t + k) i
    rw [if_neg hno, Int.add_zero] at hd
    rw [if_neg fun g => hno g.1] at hf
    rw [← Nat.add_assoc]
    exact ⟨hd.trans ih.1, hf.trans ih.2⟩
end
end Go.Ds
