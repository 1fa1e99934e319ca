import Derived.Test.YtmphblbpofnpaaaM46
namespace Go.Ds
section
variable {L : List Job} {now : Nat} {done : List Int}
def dOf (L : List Job) (x : Int) : Int := (L.getD x.toNat default).D
def rdyUp (L : List Job) (done : List Int) (now k : Nat) : List Int := ((List.range k).filter (readyJ L done now)).map fun (i : Nat) => (i : Int)
theorem rdyUp_succ (k : Nat) : rdyUp L done now (k + 1) = if readyJ L done now k = true then rdyUp L done now k ++ [(k : Int)] else rdyUp L done now k := by
  unfold rdyUp
  rw [List.range_succ, List.filter_append, List.filter_cons]
  cases readyJ L done now k with
  | true => simp
  | false => simp
theorem rdyUp_le (k : Nat) : (rdyUp L done now k).length ≤ k := by
  unfold rdyUp
  rw [List.length_map]
  exact Nat.le_trans (List.length_filter_le _ _) (by simp)
theorem rdyUp_mem {k : Nat} {x : Int} : x ∈ rdyUp L done now k ↔ ∃ i : Nat, x = i ∧ i < k ∧ readyJ L done now i = true := by
  unfold rdyUp
  simp only [List.mem_map, List.mem_filter, List.mem_range]
  constructor
  · rintro ⟨i, ⟨h1, h2⟩, rfl⟩; exact ⟨i, rfl, h1, h2⟩
  · rintro ⟨i, rfl, h1, h2⟩; exact ⟨i, ⟨h1, h2⟩, rfl⟩
theorem rdyUp_asc (k : Nat) : Asc (rdyUp L done now k) := by
  unfold rdyUp Asc
  rw [List.pairwise_map]
  have h : (List.range k).Pairwise (· < ·) := List.pairwise_lt_range
  exact (List.Pairwise.filter _ h).imp fun {a b} g => by omega
def natsOf (o : List Nat) : List Int := o.map fun (i : Nat) => (i : Int)
theorem natsOf_len (o : List Nat) : (natsOf o).length = o.length := by simp [natsOf]
theorem natsOf_mem {o : List Nat} {i : Nat} : (i : Int) ∈ natsOf o ↔ i ∈ o := by
  unfold natsOf
  rw [List.mem_map]
  exact ⟨fun ⟨a, h, e⟩ => by have : a = i := by omega
                             subst this; exact h, fun h => ⟨i, h, rfl⟩⟩
theorem natsOf_get {o : List Nat} {k : Nat} (h : k < (natsOf o).length) : (natsOf o)[k] = ((o[k]'(by simpa [natsOf] using h) : Nat) : Int) := by simp [natsOf]
theorem natsOf_snoc (o : List Nat) (b : Nat) : natsOf (o ++ [b]) = natsOf o ++ [(b : Int)] := by simp [natsOf]
theorem srt_nodup {d : Int → Int} {Z : List Int} (h : Srt d Z) : Z.Nodup := h.imp fun {a b} g e => by subst e; exact ltK_irr g
theorem sel_sorted {Z : List Int} (hp : Z.Perm (rdyUp L done now L.length)) (hs : Srt (dOf L) Z) : ∀ n, Z.take n = natsOf (gSel L now done n)
  | 0 => by simp [gSel, natsOf]
  | n + 1 => by
    have ih := sel_sorted hp hs n
    have hnd := srt_nodup hs
    have hmem : ∀ {i : Nat}, (i : Int) ∈ Z ↔ i < L.length ∧ readyJ L done now i = true := fun {i} => by
      rw [hp.mem_iff, rdyUp_mem]
      exact ⟨fun ⟨k, e, h1, h2⟩ => by have : k = i := by omega
                                      subst this; exact ⟨h1, h2⟩, fun ⟨h1, h2⟩ => ⟨i, rfl, h1, h2⟩⟩
    have hnat : ∀ {x : Int}, x ∈ Z → ∃ i : Nat, x = i ∧ i < L.length ∧ readyJ L done now i = true := fun {x} hx => rdyUp_mem.1 (hp.mem_iff.1 hx)
    have notin : ∀ {q : Nat} (hq : q < Z.length), n ≤ q → Z[q] ∉ Z.take n := fun {q} hq hle hm => by
      obtain ⟨r, hr, e⟩ := List.getElem_of_mem hm
      rw [List.length_take] at hr
      rw [List.getElem_take] at e
      exact List.pairwise_iff_getElem.1 hnd r q (by omega) hq (by omega) e
    simp only [gSel]
    rcases gNext_spec (L := L) (now := now) (done := done) (gSel L now done n) with ⟨e, h⟩ | ⟨b, e, hb, hr, hno, hmin, hlow⟩
    · rw [e, if_pos (by decide), ← ih]
      have hl : Z.length ≤ n := by
        rcases Nat.lt_or_ge n Z.length with g | g
        · exfalso
          obtain ⟨i, e1, h1, h2⟩ := hnat (List.getElem_mem g)
          have h3 := h i h1 h2
          have h4 : (i : Int) ∈ Z.take n := by rw [ih]; exact natsOf_mem.2 h3
          rw [← e1] at h4
          exact notin g (Nat.le_refl _) h4
        · exact g
      rw [List.take_of_length_le (by omega), List.take_of_length_le hl]
    · rw [e, if_neg (by omega), Int.toNat_natCast, natsOf_snoc, ← ih]
      have hbZ : (b : Int) ∈ Z := hmem.2 ⟨hb, hr⟩
      obtain ⟨q, hq, eq⟩ := List.getElem_of_mem hbZ
      have hqn : n ≤ q := by
        rcases Nat.lt_or_ge q n with g | g
        · exfalso
          refine hno (natsOf_mem.1 ?_)
          rw [← ih, ← eq]
          exact List.mem_take_iff_getElem.2 ⟨q, by omega, rfl⟩
        · exact g
      have hn : n < Z.length := by omega
      have hqn2 : q = n := by
        rcases Nat.lt_or_ge n q with g | g
        · exfalso
          obtain ⟨i, e1, h1, h2⟩ := hnat (List.getElem_mem hn)
          have hi : i ∉ gSel L now done n := fun hm => notin hn (Nat.le_refl _) (by rw [ih, e1]; exact natsOf_mem.2 hm)
          have hlt := List.pairwise_iff_getElem.1 hs n q hn hq g
          rw [e1, eq] at hlt
          have m1 := hmin i h1 h2 hi
          have m2 := fun g => hlow i g h2 hi
          unfold ltK dOf at hlt
          rw [Int.toNat_natCast, Int.toNat_natCast] at hlt
          rcases hlt with hlt | ⟨hlt, g2⟩
          · omega
          · have := m2 (by omega); omega
        · omega
      subst hqn2
      rw [take_snoc hq, eq]
theorem gSel_nil {n : Nat} (hn : 1 ≤ n) (h : rdyUp L done now L.length = []) : gSel L now done n = [] := by
  have := sel_sorted (L := L) (now := now) (done := done) (Z := []) (by rw [h]) List.Pairwise.nil n
  rw [List.take_nil] at this
  unfold natsOf at this
  exact List.map_eq_nil_iff.1 this.symm
end
end Go.Ds
