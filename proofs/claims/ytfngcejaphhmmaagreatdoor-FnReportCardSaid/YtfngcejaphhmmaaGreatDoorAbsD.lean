import Derived.Test.YtfngcejaphhmmaaGreatDoorAbsC
namespace Go.Abs
set_option linter.unusedVariables false
set_option linter.unusedSimpArgs false
theorem MCs.set {ρ : Pl} {N : Nat} : ∀ {l : List AV} {vs : List Value}, MCs ρ N l vs → ∀ (i : Nat) {x : AV} {v : Value}, MC ρ N x v → MCs ρ N (l.set i x) (vs.set i v)
  | [], [], _, _, _, _, _ => trivial
  | _ :: _, _ :: _, h, 0, _, _, hx => ⟨hx, h.2⟩
  | _ :: _, _ :: _, h, i + 1, _, _, hx => ⟨h.1, h.2.set i hx⟩
  | [], _ :: _, h, _, _, _, _ => h.elim
  | _ :: _, [], h, _, _, _, _ => h.elim
theorem fold_set {ρ : Pl} {N : Nat} (off : Nat) : ∀ {r : List AV} {vs : List Value}, MCs ρ N r vs → ∀ (k : Nat) (z : List AV) (cells : Array Value), MCs ρ N z cells.toList →
    MCs ρ N (spl z (off + k) r) ((vs.zipIdx k).foldl (fun cs p => cs.setIfInBounds (off + p.2) p.1) cells).toList
  | [], [], _, k, z, cells, h => by simpa [spl] using h
  | x :: r, v :: vs, hr, k, z, cells, h => by
    simp only [spl, List.zipIdx_cons, List.foldl_cons]
    have h' : MCs ρ N (z.set (off + k) x) (cells.setIfInBounds (off + k) v).toList := by
      rw [Array.toList_setIfInBounds]; exact h.set _ hr.1
    exact fold_set off hr.2 (k + 1) _ _ h'
  | [], _ :: _, h, _, _, _, _ => h.elim
  | _ :: _, [], h, _, _, _, _ => h.elim
section
variable {P : Program} {o : Oper} {F : Fr} {ρ : Pl} {nt : Nat} {s : St} {a : Act} {w : World} {K : AV → List AB → Prop} {next : Act → World → Prop} {Q : Exit → Act → World → Prop}
theorem fill_ok (hs : SimS F ρ nt s a w) (place : Nat → Option (Nat × Nat)) {K : List AV → Prop} : ∀ {parts : List (Nat × Operand)} {ps : List (Nat × Nat × X)} {z : List AV} {cells : Array Value},
    chkParts place parts ps = true → MCs ρ s.σ.length z cells.toList → fillP s.T z ps K →
    ∃ cs cells', Instr.fill place cells (parts.map fun p => (p.1, a.eval p.2)) = some cells' ∧ MCs ρ s.σ.length cs cells'.toList ∧ cells'.size = cells.size ∧ K cs
  | [], [], z, cells, _, hz, hk => ⟨z, cells, rfl, hz, rfl, hk⟩
  | (f, x) :: l, (off, n, y) :: r, z, cells, hc, hz, hk => by
    simp only [chkParts, Bool.and_eq_true, beq_iff_eq] at hc
    obtain ⟨⟨hp, hx⟩, hc⟩ := hc
    simp only [fillP] at hk
    obtain ⟨⟨hd, hl, hf⟩, hk⟩ := hk
    have hm := (chkX_ok hs hx).cells hd
    have hml := hm.length
    have hzl := hz.length
    have h' := fold_set off hm 0 z cells hz
    rw [Nat.add_zero] at h'
    obtain ⟨cs, cells', h1, h2, h3, h4⟩ := fill_ok hs place hc h' hk
    refine ⟨cs, cells', ?_, h2, ?_, h4⟩
    · simp only [List.map_cons, Instr.fill, hp]
      have hsz : (a.eval x).cells.size = n := by rw [← hl, hml]; simp
      rw [if_neg (by simp at hzl; simp [hsz]; omega)]
      rw [← h1]
      congr 1
      rw [← Array.foldl_toList, Array.toList_zipIdx]
    · rw [h3]
      have hh := h'.length
      rw [spl_length] at hh
      have e1 := Array.length_toList (xs := cells)
      have e2 := Array.length_toList (xs := ((a.eval x).cells.toList.zipIdx 0).foldl (fun cs p => cs.setIfInBounds (off + p.2) p.1) cells)
      omega
  | [], _ :: _, _, _, h, _, _ => by cases h
  | _ :: _, [], _, _, h, _, _ => by cases h
theorem zOf_get {T : TypeId} {z : List AV} (h : zOf P T z = true) : ∃ i v, P.info? T = some i ∧ i.zero = some v ∧ i.size = z.length ∧ ∀ ρ N, MCs ρ N z v.cells.toList := by
  unfold zOf at h
  split at h
  · rename_i i hi
    simp only [Bool.and_eq_true, beq_iff_eq] at h
    obtain ⟨h1, h2⟩ := h
    split at h2
    · rename_i v hv
      exact ⟨i, v, hi, hv, h1, fun ρ N => eqvs_MCs h2 ρ N⟩
    · cases h2
  · cases h
theorem offOf_get {S : TypeId} {f d t : Nat} (h : offOf P S f = some (d, t)) : ∃ fs fd, P.underlying S = some (.struct fs) ∧ fs[f]? = some fd ∧ fd.offset = d ∧ fd.type = t := by
  unfold offOf at h
  split at h
  · rename_i fs hfs
    split at h
    · rename_i fd hfd
      simp only [Option.some.injEq, Prod.mk.injEq] at h
      exact ⟨fs, fd, hfs, hfd, h.1, h.2⟩
    · cases h
  · cases h
theorem slOf_get {T e : TypeId} (h : slOf P T = some e) : P.underlying T = some (.slice e) := by
  unfold slOf at h
  split at h
  · cases h; assumption
  · cases h
theorem ok_fa {S f : Nat} {d t : Nat} {x : Operand} {y : X} (ho : o.op = .fieldAddr S x f) (hf : offOf P S f = some (d, t)) (h0 : szIs P t 0 = false) (hi : szIs P t ((P.info? t).elim 0 (·.size)) = true) (h1 : chkX x y = true) (hs : SimS F ρ nt s a w) (hw : wpO P (.fa d y) s K) (hn : Nxt o F ρ s a K next) : o.wp P a w next Q := by
  have hx := chkX_ok hs h1
  simp only [wpO] at hw
  split at hw
  · rename_i n d' e1
    rw [e1] at hx
    obtain ⟨hlt, hv⟩ := hx.ptr
    obtain ⟨fs, fd, hu, hfd, rfl, rfl⟩ := offOf_get hf
    have hz := szIs_run (P := P) (w := w) hi
    have hne : ((P.info? fd.type).elim 0 (·.size)) ≠ 0 := by
      intro e
      rw [e] at hi
      rw [hi] at h0
      cases h0
    refine by_value hs hn (v := .pointer (some (ad ρ n (d' + fd.offset)))) ?_ hw (by simp only [M, M1, MC]; exact ⟨hlt, trivial⟩)
    unfold execOp
    simp [ho, hv, Instr.fieldAt, Instr.sureAddr, run_underlying hu, hfd, fieldPlace, hz, hne, ad_add]
  · exact hw.elim
theorem ok_ia {T e : TypeId} {sz : Nat} {x i : Operand} {y j : X} (ho : o.op = .indexAddr T x i) (hT : slOf P T = some e) (hz : szIs P e sz = true) (h1 : chkX x y = true) (h2 : chkX i j = true) (hs : SimS F ρ nt s a w) (hw : wpO P (.ia sz y j) s K) (hn : Nxt o F ρ s a K next) : o.wp P a w next Q := by
  have hx := chkX_ok hs h1
  have hi := chkX_ok hs h2
  simp only [wpO] at hw
  split at hw
  · rename_i n d len cap k ix e1 e2
    rw [e1] at hx
    rw [e2] at hi
    obtain ⟨hb, hk⟩ := hw
    obtain ⟨hlt, b0, hv, rfl | ⟨hl0, _⟩⟩ := hx.sl
    case inr => exact absurd hb.2 (by rw [hl0]; simp; omega)
    refine by_value hs hn (v := .pointer (some (ad ρ n (d + ix.toNat * sz)))) ?_ hk (by simp only [M, M1, MC]; exact ⟨hlt, trivial⟩)
    unfold execOp
    simp [ho, hv, hi.int, Instr.indexAt, asIntOf, run_underlying (slOf_get hT), hb.1, hb.2, szIs_run (P := P) (w := w) hz, ad_add]
  · exact hw.elim
theorem ok_fld {T f : Nat} {d t : Nat} {x : Operand} {y : X} (ho : o.op = .field T x f) (hf : offOf P T f = some (d, t)) (hg : notAgg P t = true) (h1 : chkX x y = true) (hs : SimS F ρ nt s a w) (hw : wpO P (.fld d y) s K) (hn : Nxt o F ρ s a K next) : o.wp P a w next Q := by
  have hx := chkX_ok hs h1
  simp only [wpO] at hw
  split at hw
  · rename_i l e1
    rw [e1] at hx
    obtain ⟨vs, hv, hm⟩ := hx.aggv
    obtain ⟨fs, fd, hu, hfd, rfl, rfl⟩ := offOf_get hf
    obtain ⟨u, hu', hmu⟩ := hm.get (List.getElem?_eq_getElem hw.1)
    refine by_value hs hn (v := u) ?_ hw.2 (M.ofMC (by simp only [rd, List.getElem?_eq_getElem hw.1, Option.getD_some]; exact hmu))
    unfold execOp
    simp [ho, hv, Instr.field, run_underlying hu, hfd, asAgg, part, notAgg_run (P := P) (w := w) hg, hu']
  · exact hw.elim
theorem alloc_new {cs : List AV} {vs : List Value} (hs : SimS F ρ nt s a w) (hv : MCs ρ s.σ.length cs vs) (ty : TypeId) :
    Sim F (plus ρ s.σ.length (w.heap.size, 0)) (s.σ ++ [.rw ty cs cs.length]) (w.alloc (.cells vs.toArray ty)) := by
  have := hs.1.alloc ty cs vs [] hv
  simpa [hv.length] using this
theorem ok_box {T : TypeId} {x : Operand} {y : X} (ho : o.op = .box T x) (h1 : chkX x y = true) (hs : SimS F ρ nt s a w) (hw : wpO P (.box T y) s K) (hn : Nxt o F ρ s a K next) : o.wp P a w next Q := by
  have hx := chkX_ok hs h1
  simp only [wpO] at hw
  have hm := hx.cells hw.1
  refine by_value' hn (v := .pointer (some ⟨w.heap.size, 0, none⟩)) (w' := w.alloc (.cells (a.eval x).cells T)) ?_ hw.2 (alloc_new hs hm T) (by simp) (fun n hn => plus_old _ _ _ hn) ?_
  · unfold execOp
    simp [ho, Instr.box, newVar, newRow]
  · simp only [M, M1, MC]
    refine ⟨by simp, ?_⟩
    simp [ad, plus_new]
theorem ok_alloc {T : TypeId} {z : List AV} (ho : o.op = .alloc T) (hz : zOf P T z = true) (hs : SimS F ρ nt s a w) (hw : wpO P (.alloc T z) s K) (hn : Nxt o F ρ s a K next) : o.wp P a w next Q := by
  obtain ⟨i, v, hi, hv, hsz, hm⟩ := zOf_get hz
  simp only [wpO] at hw
  refine by_value' hn (v := .pointer (some ⟨w.heap.size, 0, none⟩)) (w' := w.alloc (.cells v.cells T)) ?_ hw (alloc_new hs (hm ρ _) T) (by simp) (fun n hn => plus_old _ _ _ hn) ?_
  · unfold execOp
    simp [ho, Instr.alloc, zeroValue, typeInfo, hi, hv, newVar, newRow]
  · simp only [M, M1, MC]
    refine ⟨by simp, ?_⟩
    simp [ad, plus_new]
theorem ok_build {T : TypeId} {parts : Array (Nat × Operand)} {z : List AV} {ps : List (Nat × Nat × X)} (ho : o.op = .build T parts) (hz : zOf P T z = true) (hc : chkBuild P T parts.toList z ps = true) (hs : SimS F ρ nt s a w) (hw : wpO P (.build z ps) s K) (hn : Nxt o F ρ s a K next) : o.wp P a w next Q := by
  obtain ⟨i, v, hi, hv, hsz, hm⟩ := zOf_get hz
  simp only [wpO] at hw
  unfold chkBuild at hc
  split at hc
  · rename_i fields hu
    split at hc
    · rename_i places hp
      obtain ⟨cs, cells', h1, h2, h3, h4⟩ := fill_ok hs _ hc (hm ρ _) hw
      refine by_value hs hn (v := .agg cells') ?_ h4 (by simp only [M, M1]; exact ⟨cells'.toList, by simp, h2⟩)
      unfold execOp
      simp only [ho, Sem.run_bind]
      rw [run_build w T _ cells' (by unfold Program.built; simp only [hi, hu, hv, hp]; rw [← h1]; congr 1; simp)]
      simp
    · cases hc
  · cases hc
theorem rep_length : ∀ (n : Nat) (z : List AV), (rep n z).length = n * z.length
  | 0, z => by simp [rep]
  | n + 1, z => by simp [rep, rep_length n z, Nat.succ_mul]; omega
theorem rep_get (z : List AV) : ∀ (n j : Nat), j < n * z.length → (rep n z)[j]? = z[j % z.length]?
  | 0, j, h => by simp at h
  | n + 1, j, h => by
    simp only [rep]
    by_cases hj : j < z.length
    · rw [List.getElem?_append_left hj, Nat.mod_eq_of_lt hj]
    · rw [List.getElem?_append_right (by omega), rep_get z n (j - z.length) (by rw [Nat.add_mul, Nat.one_mul] at h; omega)]
      congr 1
      exact (Nat.mod_eq_sub_mod (by omega)).symm
theorem range_cells {z : List AV} {v : Value} {N : Nat} {ρ : Pl} (hm : MCs ρ N z v.cells.toList) (hz : z.length ≠ 0) (n : Nat) :
    MCs ρ N (rep n z) ((Array.range (n * z.length)).map (fun i => v.cells[i % v.cells.size]!)).toList := by
  have hl : v.cells.size = z.length := by have := hm.length; simp at this; omega
  refine MCs.of_get (by rw [rep_length]; simp) fun k x hk => ?_
  have hlt : k < n * z.length := by have := (List.getElem?_eq_some_iff.1 hk).1; rwa [rep_length] at this
  rw [rep_get z n k hlt] at hk
  obtain ⟨u, hu, hmu⟩ := hm.get hk
  refine ⟨u, ?_, hmu⟩
  have hlt2 : k % v.cells.size < v.cells.size := Nat.mod_lt _ (by omega)
  simp [hlt]
  rw [getElem!_pos v.cells (k % v.cells.size) hlt2]
  rw [← hl] at hu
  simpa [hlt2] using hu
theorem ok_bsl {T ty : TypeId} {len : Nat} {parts : Array (Nat × Operand)} {z : List AV} {ps : List (Nat × Nat × X)} (ho : o.op = .buildSlice T len parts) (hT : slOf P T = some ty) (hz : zOf P ty z = true) (hne : z.isEmpty = false) (hmax : len * z.length ≤ 2 ^ 24)
    (hc : chkParts (fun i => some (i * z.length, z.length)) parts.toList ps = true) (hs : SimS F ρ nt s a w) (hw : wpO P (.bsl ty z len ps) s K) (hn : Nxt o F ρ s a K next) : o.wp P a w next Q := by
  obtain ⟨i, v, hi, hv, hsz, hm⟩ := zOf_get hz
  have hz0 : z.length ≠ 0 := by cases z <;> simp_all
  simp only [wpO] at hw
  have hr0 := range_cells (hm ρ s.σ.length) hz0 len
  obtain ⟨cs, cells', h1, h2, h3, h4⟩ := fill_ok hs _ hc hr0 hw
  have hcl : cs.length = len * z.length := by
    have := h2.length
    simp at this
    rw [this, h3]
    simp
  have hA := alloc_new hs h2 ty
  rw [hcl] at hA
  refine by_value' hn (v := .slice (some ⟨w.heap.size, 0, none⟩) len len) (w' := w.alloc (.cells cells' ty)) ?_ h4 hA (by simp) (fun n hn => plus_old _ _ _ hn) ?_
  · have hfill : Instr.fill (fun x => some (x * z.length, z.length)) (if len * z.length = 0 then #[] else (Array.range (len * z.length)).map (fun i => v.cells[i % v.cells.size]!)) (parts.toList.map fun p => (p.1, a.eval p.2)) = some cells' := by
      split
      · rename_i h0
        rw [h0] at h1
        simpa [Array.range_zero'] using h1
      · exact h1
    unfold execOp
    simp only [ho, Instr.buildSlice, Sem.run_bind, run_underlying (slOf_get hT), Result.andThen_ok]
    have hszr : (sizeOf ty).run P w = .ok z.length w := by simp [sizeOf, typeInfo, hi, hsz]
    have hzr : (zeroValue ty).run P w = .ok v w := by simp [zeroValue, typeInfo, hi, hv]
    simp only [hszr, Result.andThen_ok]
    rw [if_neg (by omega)]
    by_cases h0 : len * z.length = 0
    · rw [if_pos h0] at hfill
      have hf0 : Instr.fill (fun x => some (x * z.length, z.length)) #[] (parts.toList.map fun p => (p.1, a.eval p.2)) = some cells' := hfill
      have hf1 : Instr.fill (fun x => some (x * z.length, z.length)) #[] (List.map (fun x => (x.fst, a.eval x.snd)) parts.toList) = some cells' := hf0
      simp [h0, newRow, Array.range_zero', hf1]
    · rw [if_neg h0] at hfill
      simp only [h0, if_false, Sem.run_bind, hzr, Result.andThen_ok, Sem.run_pure]
      simp [hfill, newRow]
  · simp only [M, M1, MC]
    refine ⟨by simp, Nat.le_refl _, .inl ?_⟩
    simp [ad, plus_new]
theorem ok_msl {T ty : TypeId} {bytes : Nat} {l c : Operand} {z : List AV} {x : X} (ho : o.op = .makeSlice T l c) (hT : slOf P T = some ty) (hz : zOf P ty z = true) (hne : z.isEmpty = false) (hb : byIs P ty bytes = true) (hb0 : 0 < bytes)
    (h1 : chkX l x = true) (h2 : chkX c x = true) (hs : SimS F ρ nt s a w) (hw : wpO P (.msl ty bytes z x) s K) (hn : Nxt o F ρ s a K next) : o.wp P a w next Q := by
  obtain ⟨i, v, hi, hv, hsz, hm⟩ := zOf_get hz
  have hz0 : z.length ≠ 0 := by cases z <;> simp_all
  have hl := chkX_ok hs h1
  have hc := chkX_ok hs h2
  simp only [wpO] at hw
  split at hw
  · rename_i k n e
    rw [e] at hl hc
    obtain ⟨⟨hn0, hn1⟩, hk⟩ := hw
    have hib : i.bytes = bytes := by simpa [byIs, hi] using hb
    have h63 : n ≤ 9223372036854775807 := by
      have : n ≤ (bytes : Int) * n := by
        have h3 : (1 : Int) * n ≤ (bytes : Int) * n := Int.mul_le_mul_of_nonneg_right (by omega) hn0
        omega
      omega
    have hr := run_make (P := P) w T ty i v (slOf_get hT) hi hv k k n n hn0 (Int.le_refl _) (by rw [hib]; exact hn1) h63
    rw [hsz] at hr
    have hmc := range_cells (hm ρ s.σ.length) hz0 n.toNat
    have hA := alloc_new hs hmc ty
    rw [rep_length, Array.toArray_toList] at hA
    refine by_value' (ρ' := plus ρ s.σ.length (w.heap.size, 0)) hn (v := .slice (some ⟨w.heap.size, 0, none⟩) n.toNat n.toNat) (w' := w.alloc (.cells (madeCells v.cells (n.toNat * z.length)) ty)) ?_ hk hA (by simp) (fun n hn => plus_old _ _ _ hn) ?_
    · unfold execOp
      simp only [ho, hl.int, hc.int, Sem.run_bind, hr, Result.andThen_ok, Sem.run_pure]
    · simp only [M, M1, MC]
      refine ⟨by simp, Nat.le_refl _, .inl ?_⟩
      simp [ad, plus_new]
  · exact hw.elim
theorem ok_len {c : Call} {T : TypeId} {x : Operand} {y : X} (ho : o.op = .call c) (hb : c.callee = .builtin .len) (ha : c.args.toList = [x]) (hT' : c.argTypes.toList = [T]) (hT : (slOf P T).isSome = true) (h1 : chkX x y = true)
    (hs : SimS F ρ nt s a w) (hw : wpO P (.len y) s K) (hn : Nxt o F ρ s a K next) : o.wp P a w next Q := by
  have hx := chkX_ok hs h1
  obtain ⟨callee, args, argTypes⟩ := c
  obtain ⟨args⟩ := args
  obtain ⟨argTypes⟩ := argTypes
  simp only at hb ha hT'
  subst hb ha hT'
  obtain ⟨e, he⟩ := Option.isSome_iff_exists.1 hT
  have base : ∀ (b : Option Addr) (l c : Nat), a.eval x = .slice b l c → (execOp a.eval o).run P w = .ok (.value (.int .i64 l)) w := by
    intro b l c hv
    unfold execOp
    simp [ho, resolve, invoke, builtin, hv, Builtin.len_, run_underlying (slOf_get he), goInt]
  simp only [wpO] at hw
  split at hw
  · rename_i e
    rw [e] at hx
    obtain ⟨_, b0, hv, _⟩ := hx.sl
    exact by_value hs hn (base _ _ _ hv) hw (by simp [M, M1, MC])
  · rename_i e
    rw [e] at hx
    exact by_value hs hn (base _ _ _ hx.sn) hw (by simp [M, M1, MC])
  · exact hw.elim
theorem isStrT_get {T : TypeId} (h : isStrT P T = true) : P.underlying T = some .string := by
  unfold isStrT at h
  split at h
  · assumption
  · cases h
theorem ok_slen {c : Call} {T : TypeId} {x : Operand} {y : X} (ho : o.op = .call c) (hb : c.callee = .builtin .len) (ha : c.args.toList = [x]) (hT' : c.argTypes.toList = [T]) (hT : isStrT P T = true) (h1 : chkX x y = true)
    (hs : SimS F ρ nt s a w) (hw : wpO P (.slen y) s K) (hn : Nxt o F ρ s a K next) : o.wp P a w next Q := by
  have hx := chkX_ok hs h1
  obtain ⟨callee, args, argTypes⟩ := c
  obtain ⟨args⟩ := args
  obtain ⟨argTypes⟩ := argTypes
  simp only at hb ha hT'
  subst hb ha hT'
  simp only [wpO] at hw
  split at hw
  · rename_i b e
    rw [e] at hx
    refine by_value hs hn (v := .int .i64 b.size) ?_ hw (by simp [M, M1, MC])
    unfold execOp
    simp [ho, resolve, invoke, builtin, hx.str, Builtin.len_, run_underlying (isStrT_get hT), goInt]
  · exact hw.elim
theorem run_slice_nil (w : World) (t e : TypeId) (a : Option Addr) (l c : Nat) (h : P.underlying t = some (.slice e)) : (binOp .eql t (.slice a l c) (.slice none 0 0)).run P w = .ok (.bool a.isNone) w := by
  have key : ∀ d : Nat, (Op.equalIn (d + 1) t (.slice a l c) (.slice none 0 0)).run P w = .ok a.isNone w := fun d => by
    cases a <;> simp [Op.equalIn, run_underlying h]
  have e : (Op.equal t (.slice a l c) (.slice none 0 0)).run P w = .ok a.isNone w := key 9999
  simp only [binOp]
  simp [e]
theorem ok_snil {T T' : TypeId} {x : Operand} {y : X} (ho : o.op = .binOp .eql T x (.const (.slice none 0 0)) T') (hT : (slOf P T).isSome = true) (h1 : chkX x y = true)
    (hs : SimS F ρ nt s a w) (hw : wpO P (.snil y) s K) (hn : Nxt o F ρ s a K next) : o.wp P a w next Q := by
  have hx := chkX_ok hs h1
  obtain ⟨e, he⟩ := Option.isSome_iff_exists.1 hT
  have hu : P.underlying T = some (.slice e) := by
    unfold slOf at he
    split at he
    · rename_i e' h; cases he; exact h
    · cases he
  have hg : ∀ b l c, (eqGuard .eql T x (.const (.slice none 0 0)) (.slice b l c) (.slice none 0 0)).run P w = .ok () w := fun b l c => eqGuard_plain rfl (by simp)
  have hc : a.eval (.const (.slice none 0 0)) = .slice none 0 0 := rfl
  simp only [wpO] at hw
  split at hw
  · rename_i n oo len cap e1
    rw [e1] at hx
    obtain ⟨_, b, hv, hb⟩ := hx.sl
    refine by_value hs hn (v := .bool b.isNone) (x := .b b.isNone) ?_ ?_ (by simp [M, M1, MC])
    · unfold execOp
      simp only [ho, hv, hc, Sem.run_bind, hg, run_slice_nil w T e _ _ _ hu, Result.andThen_ok, Sem.run_pure]
    · rcases hb with rfl | ⟨h2, h3, rfl⟩
      · exact hw.2
      · exact hw.1 h2 h3
  · rename_i e1
    rw [e1] at hx
    refine by_value hs hn (v := .bool true) (x := .b true) ?_ hw (by simp [M, M1, MC])
    unfold execOp
    simp only [ho, hx.sn, hc, Sem.run_bind, hg, run_slice_nil w T e _ _ _ hu, Result.andThen_ok, Sem.run_pure, Option.isNone_none]
  · exact hw.elim
theorem two_args {args : List Operand} {x y : X} (h : chkXs args [x, y] = true) : ∃ p q, args = [p, q] ∧ chkX p x = true ∧ chkX q y = true := by
  match args, h with
  | [], h => cases h
  | [_], h => simp [chkXs] at h
  | [p, q], h => simp [chkXs] at h; exact ⟨p, q, rfl, h.1, h.2⟩
  | _ :: _ :: _ :: _, h => simp [chkXs] at h
theorem ok_mn {c : Call} {x y : X} (ho : o.op = .call c) (hb : c.callee = .builtin .min) (ha : chkXs c.args.toList [x, y] = true)
    (hs : SimS F ρ nt s a w) (hw : wpO P (.mn x y) s K) (hn : Nxt o F ρ s a K next) : o.wp P a w next Q := by
  obtain ⟨p, q, hl, h1, h2⟩ := two_args ha
  have hx := chkX_ok hs h1
  have hy := chkX_ok hs h2
  obtain ⟨callee, args, argTypes⟩ := c
  obtain ⟨args⟩ := args
  simp only at hb hl
  subst hb hl
  simp only [wpO] at hw
  split at hw
  · rename_i k u k' v e1 e2
    rw [e1] at hx
    rw [e2] at hy
    refine by_value hs hn (v := .int k (if v < u then v else u)) ?_ hw (by simp [M, M1, MC])
    unfold execOp
    simp [ho, resolve, invoke, builtin, hx.int, hy.int, Builtin.min_, Builtin.min2]
  · exact hw.elim
theorem ok_mx {c : Call} {x y : X} (ho : o.op = .call c) (hb : c.callee = .builtin .max) (ha : chkXs c.args.toList [x, y] = true)
    (hs : SimS F ρ nt s a w) (hw : wpO P (.mx x y) s K) (hn : Nxt o F ρ s a K next) : o.wp P a w next Q := by
  obtain ⟨p, q, hl, h1, h2⟩ := two_args ha
  have hx := chkX_ok hs h1
  have hy := chkX_ok hs h2
  obtain ⟨callee, args, argTypes⟩ := c
  obtain ⟨args⟩ := args
  simp only at hb hl
  subst hb hl
  simp only [wpO] at hw
  split at hw
  · rename_i k u k' v e1 e2
    rw [e1] at hx
    rw [e2] at hy
    refine by_value hs hn (v := .int k (if u < v then v else u)) ?_ hw (by simp [M, M1, MC])
    unfold execOp
    simp [ho, resolve, invoke, builtin, hx.int, hy.int, Builtin.max_, Builtin.max2]
  · exact hw.elim
theorem toPs_get {T : List (Nat × AV)} : ∀ {l : List X} {r : List (Nat × Nat)}, toPs T l = some r → l.map (ev T) = pAV r
  | [], r, h => by simp [toPs] at h; subst h; rfl
  | x :: l, r, h => by
    simp only [toPs, Option.bind_eq_some_iff, Option.map_eq_some_iff] at h
    obtain ⟨y, hy, r', hr', rfl⟩ := h
    have hx : ev T x = .p y.1 y.2 := by
      unfold toP at hy
      split at hy
      · rename_i n o e; cases hy; exact e
      · cases hy
    simp [pAV, hx]
    have := toPs_get hr'
    simpa [pAV] using this
theorem ptrs_of (hs : SimS F ρ nt s a w) : ∀ {l : List Operand} {xs : List X} {r : List (Nat × Nat)}, chkXs l xs = true → xs.map (ev s.T) = pAV r → (∀ x ∈ r, x.1 < s.σ.length) ∧ l.map a.eval = ptrs ρ r
  | [], [], [], _, _ => ⟨by simp, rfl⟩
  | p :: l, x :: xs, (n, d) :: r, hc, h => by
    simp only [chkXs, Bool.and_eq_true] at hc
    simp only [List.map_cons, pAV, List.cons.injEq] at h
    have hx := chkX_ok hs hc.1
    rw [h.1] at hx
    obtain ⟨hlt, hv⟩ := hx.ptr
    obtain ⟨h1, h2⟩ := ptrs_of hs hc.2 (r := r) h.2
    exact ⟨by simp; exact ⟨hlt, fun a b hab => h1 (a, b) hab⟩, by simp [ptrs, hv]; simpa [ptrs] using h2⟩
  | [], _ :: _, _, h, _ => by cases h
  | _ :: _, [], _, h, _ => by cases h
  | [], [], _ :: _, _, h => by cases h
  | _ :: _, _ :: _, [], _, h => by cases h
theorem ok_mkf {f g : Nat} {fs cs : Array Operand} {xs ys : List X} (ho : o.op = .makeFunc (.func f) fs cs) (hf : f = g) (h1 : chkXs fs.toList xs = true) (h2 : chkXs cs.toList ys = true)
    (hs : SimS F ρ nt s a w) (hw : wpO P (.mkf g xs ys) s K) (hn : Nxt o F ρ s a K next) : o.wp P a w next Q := by
  subst hf
  simp only [wpO] at hw
  split at hw
  · rename_i r1 r2 e1 e2
    obtain ⟨l1, v1⟩ := ptrs_of hs h1 (toPs_get e1)
    obtain ⟨l2, v2⟩ := ptrs_of hs h2 (toPs_get e2)
    refine by_value hs hn (v := .func (.func f) (ptrs ρ r1).toArray (ptrs ρ r2).toArray) ?_ hw (by simp only [M, M1, MC]; exact ⟨l1, l2, trivial⟩)
    unfold execOp
    have e3 : fs.map a.eval = (ptrs ρ r1).toArray := by rw [← v1]; apply Array.ext'; simp
    have e4 : cs.map a.eval = (ptrs ρ r2).toArray := by rw [← v2]; apply Array.ext'; simp
    simp [ho, Instr.makeFunc, e3, e4]
  · exact hw.elim
theorem M1s.get {ρ : Pl} {N : Nat} : ∀ {l : List AV} {vs : List Value}, M1s ρ N l vs → ∀ {k : Nat} {x : AV}, l[k]? = some x → ∃ v, vs[k]? = some v ∧ M1 ρ N x v
  | [], [], _, k, x, h => by simp at h
  | y :: l, v :: vs, h, 0, x, hx => by simp at hx; subst hx; exact ⟨v, rfl, h.1⟩
  | y :: l, v :: vs, h, k + 1, x, hx => by simp at hx ⊢; exact h.2.get hx
  | [], _ :: _, h, _, _, _ => h.elim
  | _ :: _, [], h, _, _, _ => h.elim
theorem ok_ext {i : Nat} {x : Operand} {y : X} (ho : o.op = .extract x i) (h1 : chkX x y = true) (hs : SimS F ρ nt s a w) (hw : wpO P (.ext i y) s K) (hn : Nxt o F ρ s a K next) : o.wp P a w next Q := by
  have hx := chkX_ok hs h1
  simp only [wpO] at hw
  split at hw
  · rename_i l e
    rw [e] at hx
    obtain ⟨vs, hv, hm⟩ := hx.tupv
    obtain ⟨u, hu, hmu⟩ := hm.get (List.getElem?_eq_getElem hw.1)
    refine by_value hs hn (v := u) ?_ hw.2 (M.ofM1 (by simp only [rd, List.getElem?_eq_getElem hw.1, Option.getD_some]; exact hmu))
    unfold execOp
    simp [ho, hv, Instr.extract, hu]
  · exact hw.elim
theorem isIntT_get {T : TypeId} (h : isIntT P T = true) : ∃ k, P.underlying T = some (.int k) := by
  unfold isIntT at h
  split at h
  · exact ⟨_, by assumption⟩
  · cases h
theorem ok_conv {src dst : TypeId} {k : IntKind} {x : Operand} {y : X} (ho : o.op = .convert src dst x) (hs1 : isIntT P src = true) (hd : P.underlying dst = some (.int k)) (h1 : chkX x y = true) (hs : SimS F ρ nt s a w) (hw : wpO P (.conv k y) s K) (hn : Nxt o F ρ s a K next) : o.wp P a w next Q := by
  have hx := chkX_ok hs h1
  simp only [wpO] at hw
  split at hw
  · rename_i k' n e
    rw [e] at hx
    obtain ⟨k2, hk2⟩ := isIntT_get hs1
    refine by_value hs hn (v := .int k n) ?_ hw.2 (by simp [M, M1, MC])
    unfold execOp
    have := wrap_fits hw.1
    simp [ho, hx.int, convert, run_underlying hk2, run_underlying hd, Conv.intToInt, this]
  · exact hw.elim
theorem ok_nilc {x : Operand} {y : X} (ho : o.op = .nilCheck x) (h1 : chkX x y = true) (hs : SimS F ρ nt s a w) (hw : wpO P (.nilc y) s K) (hn : Nxt o F ρ s a K next) : o.wp P a w next Q := by
  have hx := chkX_ok hs h1
  simp only [wpO] at hw
  split at hw
  · rename_i n d e
    rw [e] at hx
    refine by_value hs hn (v := a.eval x) ?_ hw (by rw [hx.ptr.2]; simp only [M, M1, MC]; exact ⟨hx.ptr.1, trivial⟩)
    unfold execOp
    simp [ho, hx.ptr.2]
  · rename_i f fs cs e
    rw [e] at hx
    refine by_value hs hn (v := a.eval x) ?_ hw hx
    unfold execOp
    simp [ho, hx.fnv.2.2]
  · exact hw.elim
end
end Go.Abs
