import Derived.Test.YtfngcejaphhmmaaGreatDoorAbsD
namespace Go.Abs
set_option linter.unusedVariables false
set_option linter.unusedSimpArgs false
section
variable {P : Program} {o : Oper} {F : Fr} {ρ : Pl} {nt : Nat} {s : St} {a : Act} {w : World} {K : AV → List AB → Prop} {next : Act → World → Prop} {Q : Exit → Act → World → Prop}
theorem bnd_ok (hs : SimS F ρ nt s a w) {x : Option Operand} {y : Option X} (hc : chkXo x y = true) {d : Nat} {K : Nat → Prop} (hb : bnd (y.map (ev s.T)) d K) :
    (x = none ∧ y = none ∧ K d) ∨ ∃ p q k n, x = some p ∧ y = some q ∧ a.eval p = .int k n ∧ 0 ≤ n ∧ K n.toNat := by
  cases x <;> cases y <;> first | cases hc | skip
  · exact .inl ⟨rfl, rfl, hb⟩
  · rename_i p q
    simp only [Option.map_some, bnd] at hb
    split at hb
    · rename_i e; cases e
    · rename_i d' K' k n e
      simp only [Option.some.injEq] at e
      have := chkX_ok hs hc
      rw [e] at this
      exact .inr ⟨p, q, k, n, rfl, rfl, this.int, hb.1, hb.2⟩
    · exact hb.elim
theorem run_sb {k : IntKind} {n : Int} {y : Nat} {code : BoundsCode} (h0 : 0 ≤ n) (h1 : n.toNat ≤ y) (w : World) : (Instr.sliceBound (.int k n) y code).run P w = .ok n.toNat w :=
  run_sliceBound w k n y code h0 (by omega)
theorem ok_slc {T e : TypeId} {sz : Nat} {x : Operand} {lo hi mx : Option Operand} {y : X} {lo' hi' mx' : Option X} (ho : o.op = .slice T x lo hi mx) (hT : slOf P T = some e) (hz : szIs P e sz = true) (h1 : chkX x y = true)
    (h2 : chkXo lo lo' = true) (h3 : chkXo hi hi' = true) (h4 : chkXo mx mx' = true) (h5 : mx.isNone = true ∨ hi.isSome = true) (hs : SimS F ρ nt s a w) (hw : wpO P (.slc sz y lo' hi' mx') s K) (hn : Nxt o F ρ s a K next) : o.wp P a w next Q := by
  have hx := chkX_ok hs h1
  have hu := slOf_get hT
  have hel : P.elem T = e := by simp [Program.elem, hu]
  have hz' := szIs_run (P := P) (w := w) hz
  have main : ∀ (b : Option Addr) (len cap l h m : Nat), a.eval x = .slice b len cap → (Instr.sliceBounds true len cap (lo.map a.eval) (hi.map a.eval) (mx.map a.eval)).run P w = .ok (l, h, m) w →
      (execOp a.eval o).run P w = .ok (.value (.slice (if m = l then b else b.map (·.add (l * sz))) (h - l) (m - l))) w := by
    intro b len cap l h m hv hr
    unfold execOp
    have h6 := run_slice_any (P := P) w T b len cap (by rw [hel]; exact hu) (lo.map a.eval) (hi.map a.eval) (mx.map a.eval)
    rw [hr, hel] at h6
    simp only [Result.andThen_ok, hz', sliced] at h6
    simp [ho, hv, run_sliceAt_slice (P := P) w T _ _ _ _ (by rw [hel]; exact hu), h6]
  simp only [wpO] at hw
  split at hw
  · rename_i n d len cap e1
    rw [e1] at hx
    have hcap := hx.cap
    obtain ⟨hlt, b0, hv, hb0⟩ := hx.sl
    have fin : ∀ (l h m : Nat), (Instr.sliceBounds true len cap (lo.map a.eval) (hi.map a.eval) (mx.map a.eval)).run P w = .ok (l, h, m) w → h ≤ m → (len = 0 → cap = 0 → h = 0 ∧ m = 0) →
        (m ≠ l → K (.sl n (d + l * sz) (h - l) (m - l)) s.σ) → (m = l → K (.sl n d (h - l) (m - l)) s.σ) → o.wp P a w next Q := by
      intro l h m hr hhm hbd k1 k2
      have hm := main _ len cap l h m hv hr
      by_cases hml : m = l
      · rw [if_pos hml] at hm
        refine by_value hs hn hm (k2 hml) ?_
        simp only [M, M1, MC]
        rcases hb0 with rfl | ⟨hl0, hc0, rfl⟩
        · exact ⟨hlt, by omega, .inl rfl⟩
        · obtain ⟨e3, e4⟩ := hbd hl0 hc0
          exact ⟨hlt, by omega, .inr ⟨by omega, by omega, by congr 1 <;> omega⟩⟩
      · rw [if_neg hml] at hm
        refine by_value hs hn hm (k1 hml) ?_
        rcases hb0 with rfl | ⟨hl0, hc0, rfl⟩
        · simp only [M, M1, MC, Option.map_some, ad_add]
          exact ⟨hlt, by omega, .inl trivial⟩
        · obtain ⟨e3, e4⟩ := hbd hl0 hc0
          simp only [M, M1, MC, Option.map_none]
          exact ⟨hlt, by omega, .inr ⟨by omega, by omega, by congr 1 <;> omega⟩⟩
    rcases bnd_ok hs h4 hw with ⟨rfl, rfl, hw⟩ | ⟨pm, qm, km, nm, rfl, rfl, em, zm, hw⟩
    · rcases bnd_ok hs h3 hw with ⟨rfl, rfl, hw⟩ | ⟨ph, qh, kh, nh, rfl, rfl, eh, zh, hw⟩
      · cases lo' with
        | none =>
          cases lo <;> first | cases h2 | skip
          refine fin 0 len cap (by simp [Instr.sliceBounds]) hcap (fun a b => ⟨a, b⟩) (fun _ => by simpa using hw.2) (fun hm => by simpa using hw.2)
        | some ql =>
          cases lo <;> first | cases h2 | skip
          rename_i pl
          rcases bnd_ok (y := some ql) hs h2 hw with ⟨_, hq, _⟩ | ⟨pl', ql', kl, nl, e3, e4, el, z, ⟨c1, c2, c3⟩, k1, k2⟩
          · cases hq
          · cases e3
            exact fin nl.toNat len cap (by simp [Instr.sliceBounds, el, run_sb (P := P) z c1 w]) hcap (fun a b => ⟨a, b⟩) k1 k2
      · cases lo' with
        | none =>
          cases lo <;> first | cases h2 | skip
          obtain ⟨⟨c2, c3⟩, k1⟩ := hw
          have c2' : nh.toNat ≤ cap := by rcases c2 rfl with h | ⟨_, h⟩ <;> omega
          exact fin 0 nh.toNat cap (by simp [Instr.sliceBounds, eh, run_sb (P := P) zh c2' w]) c2' (fun a b => ⟨by omega, b⟩) (fun _ => by simpa using k1) (fun hm => by simpa using k1)
        | some ql =>
          cases lo <;> first | cases h2 | skip
          rename_i pl
          rcases bnd_ok (y := some ql) hs h2 hw with ⟨_, hq, _⟩ | ⟨pl', ql', kl, nl, e3, e4, el, z, ⟨c1, c2, c3⟩, k1, k2⟩
          · cases hq
          · cases e3
            have c2' : nh.toNat ≤ cap := by rcases c2 rfl with h | ⟨_, h⟩ <;> omega
            exact fin nl.toNat nh.toNat cap (by simp [Instr.sliceBounds, eh, el, run_sb (P := P) zh c2' w, run_sb (P := P) z c1 w]) c2' (fun a b => ⟨by omega, b⟩) k1 k2
    · rcases bnd_ok hs h3 hw with ⟨rfl, rfl, hw⟩ | ⟨ph, qh, kh, nh, rfl, rfl, eh, zh, hw⟩
      · simp at h5
      · cases lo' with
        | none =>
          cases lo <;> first | cases h2 | skip
          obtain ⟨⟨c2, c3⟩, k1⟩ := hw
          have c2' : nh.toNat ≤ nm.toNat := by
            rcases c2 rfl with h | ⟨h, _⟩
            · exact h
            · cases h
          exact fin 0 nh.toNat nm.toNat (by simp [Instr.sliceBounds, em, eh, run_sb (P := P) zm (c3 rfl) w, run_sb (P := P) zh c2' w]) c2' (fun a b => ⟨by have := c3 rfl; omega, by have := c3 rfl; omega⟩) (fun _ => by simpa using k1) (fun hm => by simpa using k1)
        | some ql =>
          cases lo <;> first | cases h2 | skip
          rename_i pl
          rcases bnd_ok (y := some ql) hs h2 hw with ⟨_, hq, _⟩ | ⟨pl', ql', kl, nl, e3, e4, el, z, ⟨c1, c2, c3⟩, k1, k2⟩
          · cases hq
          · cases e3
            have c2' : nh.toNat ≤ nm.toNat := by
              rcases c2 rfl with h | ⟨h, _⟩
              · exact h
              · cases h
            exact fin nl.toNat nh.toNat nm.toNat (by simp [Instr.sliceBounds, em, eh, el, run_sb (P := P) zm (c3 rfl) w, run_sb (P := P) zh c2' w, run_sb (P := P) z c1 w]) c2' (fun a b => ⟨by have := c3 rfl; omega, by have := c3 rfl; omega⟩) k1 k2
  · rename_i e1
    rw [e1] at hx
    have hv := hx.sn
    have fin : ∀ (l h m : Nat), (Instr.sliceBounds true 0 0 (lo.map a.eval) (hi.map a.eval) (mx.map a.eval)).run P w = .ok (l, h, m) w →
        (l = 0 ∧ h = 0 ∧ m = 0) ∧ K .sn s.σ → o.wp P a w next Q := by
      intro l h m hr hk
      obtain ⟨⟨rfl, rfl, rfl⟩, k1⟩ := hk
      exact by_value hs hn (main _ 0 0 0 0 0 hv hr) k1 (by simp [M, M1, MC])
    rcases bnd_ok hs h4 hw with ⟨rfl, rfl, hw⟩ | ⟨pm, qm, km, nm, rfl, rfl, em, zm, hw⟩
    · rcases bnd_ok hs h3 hw with ⟨rfl, rfl, hw⟩ | ⟨ph, qh, kh, nh, rfl, rfl, eh, zh, hw⟩
      · rcases bnd_ok hs h2 hw with ⟨rfl, rfl, hw⟩ | ⟨pl, ql, kl, nl, rfl, rfl, el, zl, hw⟩
        · exact fin 0 0 0 (by simp [Instr.sliceBounds]) hw
        · exact fin nl.toNat 0 0 (by simp [Instr.sliceBounds, el, run_sb (P := P) (y := 0) zl (by omega) w]) hw
      · rcases bnd_ok hs h2 hw with ⟨rfl, rfl, hw⟩ | ⟨pl, ql, kl, nl, rfl, rfl, el, zl, hw⟩
        · exact fin 0 nh.toNat 0 (by simp [Instr.sliceBounds, eh, run_sb (P := P) (y := 0) zh (by omega) w]) hw
        · exact fin nl.toNat nh.toNat 0 (by simp [Instr.sliceBounds, eh, el, run_sb (P := P) (y := 0) zh (by omega) w, run_sb (P := P) (y := nh.toNat) zl (by omega) w]) hw
    · rcases bnd_ok hs h3 hw with ⟨rfl, rfl, hw⟩ | ⟨ph, qh, kh, nh, rfl, rfl, eh, zh, hw⟩
      · simp at h5
      · rcases bnd_ok hs h2 hw with ⟨rfl, rfl, hw⟩ | ⟨pl, ql, kl, nl, rfl, rfl, el, zl, hw⟩
        · exact fin 0 nh.toNat nm.toNat (by simp [Instr.sliceBounds, em, eh, run_sb (P := P) (y := 0) zm (by omega) w, run_sb (P := P) (y := nm.toNat) zh (by omega) w]) hw
        · exact fin nl.toNat nh.toNat nm.toNat (by simp [Instr.sliceBounds, em, eh, el, run_sb (P := P) (y := 0) zm (by omega) w, run_sb (P := P) (y := nm.toNat) zh (by omega) w, run_sb (P := P) (y := nh.toNat) zl (by omega) w]) hw
  · exact hw.elim
theorem m1_ptrs {N : Nat} : ∀ {r : List (Nat × Nat)}, (∀ x ∈ r, x.1 < N) → M1s ρ N (pAV r) (ptrs ρ r)
  | [], _ => trivial
  | (n, d) :: r, h => ⟨by simp only [M1, MC]; exact ⟨h (n, d) (by simp), trivial⟩, m1_ptrs fun x hx => h x (by simp [hx])⟩
theorem m1_args (hs : SimS F ρ nt s a w) : ∀ {l : List Operand} {xs : List X}, chkXs l xs = true → (xs.map (ev s.T)).all AV.data = true → M1s ρ s.σ.length (xs.map (ev s.T)) (l.map a.eval)
  | [], [], _, _ => trivial
  | p :: l, x :: xs, hc, hd => by
    simp only [chkXs, Bool.and_eq_true] at hc
    simp only [List.map_cons, List.all_cons, Bool.and_eq_true] at hd
    exact ⟨(chkX_ok hs hc.1).m1 hd.1, m1_args hs hc.2 hd.2⟩
  | [], _ :: _, h, _ => by cases h
  | _ :: _, [], h, _ => by cases h
theorem ok_call {c : Call} {f : Operand} {f' : X} {xs : List X} (ho : o.op = .call c) (hb : c.callee = .value f) (h1 : chkX f f' = true) (h2 : chkXs c.args.toList xs = true) (hs : SimS F ρ nt s a w) (hw : wpO P (.call f' xs) s K) (hn : Nxt o F ρ s a K next) : o.wp P a w next Q := by
  have hf := chkX_ok hs h1
  simp only [wpO] at hw
  split at hw
  · rename_i g fs cs e
    rw [e] at hf
    obtain ⟨l1, l2, hv⟩ := hf.fnv
    obtain ⟨hd, ⟨fn, hfn, hname, hbody⟩, hcall⟩ := hw
    have hm : M1s ρ s.σ.length (pAV fs ++ xs.map (ev s.T) ++ pAV cs) (ptrs ρ fs ++ c.args.toList.map a.eval ++ ptrs ρ cs) := ((m1_ptrs l1).append (m1_args hs h2 hd)).append (m1_ptrs l2)
    have hc := hcall F ρ w _ hs.1 hm
    obtain ⟨callee, args, argTypes⟩ := c
    simp only at hb
    subst hb
    have hr : (execOp a.eval o).run P w = .ok (.enter g (ptrs ρ fs ++ args.toList.map a.eval ++ ptrs ρ cs).toArray) w := by
      unfold execOp
      have e1 : (ptrs ρ fs).toArray ++ args.map a.eval ++ (ptrs ρ cs).toArray = (ptrs ρ fs ++ args.toList.map a.eval ++ ptrs ρ cs).toArray := by
        apply Array.ext'; simp
      simp only [ho, resolve, hv, Deferred.ofValue, Sem.run_bind, Sem.run_pure, Result.andThen_ok, invoke, callFunc, run_program, hfn, hname, hbody, e1]
      simp
    unfold Oper.wp
    rw [hr, Oper.upon_enter]
    refine hc.mono ?_
    rintro e w' ⟨v, x, σ', ρ', rfl, hsim, hN, he, hmx, hk⟩
    exact hn x v ρ' σ' w' hk hsim hN he hmx
  · exact hw.elim
/-! ### append -/
theorem run_app {c : Call} {T : TypeId} {p q : Operand} (ho : o.op = .call c) (hb : c.callee = .builtin .append) (ha : c.args.toList = [p, q]) (hT : c.argTypes.toList = [T, T]) {v : Value} {w' : World}
    (hr : (Builtin.append_ #[T, T] o.type #[a.eval p, a.eval q]).run P w = .ok v w') : (execOp a.eval o).run P w = .ok (.value v) w' := by
  obtain ⟨callee, args, argTypes⟩ := c
  obtain ⟨args⟩ := args
  obtain ⟨argTypes⟩ := argTypes
  simp only at hb ha hT
  subst hb ha hT
  unfold execOp
  simp [ho, resolve, invoke, builtin, hr]
theorem app_grow (hs : Sim F ρ s.σ w) (ty : TypeId) {sz : Nat} {cs : List AV} {vs : List Value} (hm : MCs ρ s.σ.length cs vs) {need : Nat} (hl : vs.length = need * sz) (z : Array Value) (hz : z.size = sz) (cap : Nat) (hc : need ≤ cap) :
    Sim F (plus ρ s.σ.length (w.heap.size, 0)) (s.σ ++ [.rw ty cs (cap * sz)]) (w.drew.alloc (.cells (vs.toArray ++ Builtin.zeroCells z (cap - need)) ty)) := by
  have h := hs.drew.alloc ty cs vs (Builtin.zeroCells z (cap - need)).toList hm
  have e1 : vs.length + (Builtin.zeroCells z (cap - need)).toList.length = cap * sz := by
    rw [hl, Array.length_toList, size_zeroCells, hz, ← Nat.add_mul]
    congr 1
    omega
  rw [e1] at h
  have e2 : (vs ++ (Builtin.zeroCells z (cap - need)).toList).toArray = vs.toArray ++ Builtin.zeroCells z (cap - need) := by
    apply Array.ext'; simp
  rw [e2] at h
  exact h
theorem take_vals {N : Nat} {c : Array Value} {cs : List AV} (h : Cells ρ N c 0 cs) (n : Nat) (hn : n ≤ cs.length) : MCs ρ N (cs.take n) (c.toList.take n) := by
  have hsz := Holds.size h
  refine MCs.of_get (by simp; omega) fun k x hk => ?_
  rw [List.getElem?_take] at hk
  split at hk
  · obtain ⟨v, h1, h2⟩ := h k x hk
    refine ⟨v, ?_, h2⟩
    rw [List.getElem?_take, if_pos (by assumption)]
    simpa using h1
  · cases hk
theorem app_facts {ty : TypeId} {sz bytes : Nat} (hz : szIs P ty sz = true) (hb : byIs P ty bytes = true) (hzero : (P.info? ty).any (fun i => i.zero.any fun z => z.cells.size == sz) = true) :
    ∃ i z, P.info? ty = some i ∧ i.zero = some z ∧ i.size = sz ∧ i.bytes = bytes ∧ z.cells.size = sz := by
  unfold szIs at hz
  unfold byIs at hb
  split at hz
  · rename_i i hi
    rw [hi] at hb hzero
    simp only [Option.any_some] at hzero
    cases hzz : i.zero with
    | none => rw [hzz] at hzero; cases hzero
    | some z =>
      rw [hzz] at hzero
      exact ⟨i, z, hi, hzz, by simpa using hz, by simpa using hb, by simpa using hzero⟩
  · cases hz
theorem app_none {T ty : TypeId} {i : TypeInfo} (hu : P.underlying T = some (.slice ty)) (hi : P.info? ty = some i) (t : TypeId) (b : Option Addr) (len cap : Nat) (hle : len ≤ cap) (q : Value) (hq : ∃ b' c, q = .slice b' 0 c) :
    (Builtin.append_ #[T, T] t #[.slice b len cap, q]).run P w = .ok (.slice b len cap) w := by
  obtain ⟨b', c, rfl⟩ := hq
  cases b <;> cases b' <;> simp [Builtin.append_, run_underlying hu, sizeOf, typeInfo, hi, Builtin.lenOf, Builtin.firstCells, loadCells, loadCellsFrom, hle, storeCells]
theorem Sim.retake {σ : List AB} (h : Sim F ρ σ w) {n : Nat} {ty : TypeId} {cs : List AV} {r : Nat} (hn : σ[n]? = some (.rw ty cs r)) (k : Nat) : Sim F ρ (σ.set n (.rw ty (cs.take k) r)) w := by
  obtain ⟨hl, hb⟩ := h.bl n _ hn
  by_cases hr : r = 0
  · have hcs : cs = [] := List.eq_nil_of_length_eq_zero (by omega)
    subst hcs
    have hlt := (List.getElem?_eq_some_iff.1 hn).1
    have : σ.set n (.rw ty (([] : List AV).take k) r) = σ := by
      apply List.ext_getElem?
      intro j
      rw [List.getElem?_set]
      by_cases e : n = j
      · subst e; rw [if_pos rfl, if_pos hlt, hn]; simp
      · rw [if_neg e]
    rw [this]
    exact h
  · obtain ⟨h0, c, h1, h2, h3⟩ := hb hr
    exact h.write hn hr c rfl rfl rfl (Nat.le_refl _) (fun _ _ _ => rfl) h1 h2 (by simp; omega) fun k' x hk => by
      rw [List.getElem?_take] at hk
      split at hk
      · exact h3 k' x hk
      · cases hk
theorem ok_app {c : Call} {T ty : TypeId} {sz bytes : Nat} {x y : X} (ho : o.op = .call c) (hb : c.callee = .builtin .append) (ha : chkXs c.args.toList [x, y] = true) (hTT : c.argTypes.toList = [T, T]) (hT : slOf P T = some ty) (hsz : szIs P ty sz = true) (hby : byIs P ty bytes = true)
    (hzero : (P.info? ty).any (fun i => i.zero.any fun z => z.cells.size == sz) = true) (hpos : 0 < sz) (hs : SimS F ρ nt s a w) (hw : wpO P (.app ty sz bytes x y) s K) (hn : Nxt o F ρ s a K next) : o.wp P a w next Q := by
  obtain ⟨p, q, hl, h1, h2⟩ := two_args ha
  have hx := chkX_ok hs h1
  have hy := chkX_ok hs h2
  have hu := slOf_get hT
  obtain ⟨i, z, hi, hz, hisz, hiby, hzsz⟩ := app_facts hsz hby hzero
  simp only [wpO] at hw
  split at hw
  · -- nil, a slice
    rename_i n d m mc e1 e2
    rw [e1] at hx
    rw [e2] at hy
    split at hw
    · rename_i cs hcs
      obtain ⟨⟨c1, c2, c3⟩, k0, k1⟩ := hw
      obtain ⟨vs, hm, hvl, hcell⟩ := win_vals hs.1 hcs c1
      obtain ⟨hlt, b0, hyv, hb0⟩ := hy.sl
      rcases Nat.eq_zero_or_pos m with rfl | hmp
      · refine by_value hs hn (v := .slice none 0 0) (run_app ho hb hl hTT ?_) (k0 rfl) (by simp [M, M1, MC])
        rw [hx.sn]
        exact app_none hu hi _ _ _ _ (Nat.le_refl _) _ ⟨_, _, hyv⟩
      · obtain rfl | ⟨e, _⟩ := hb0
        case inr => omega
        have hr := run_append_nil (P := P) w T o.type ty i z hu hi hz (ad ρ n d) m mc vs (by rw [hisz]; exact hvl) hcell hmp (by omega) (by rw [hiby]; omega)
        have hsim := app_grow hs.1 ty hm hvl z.cells hzsz (grownCap w m 0 ty) (grownCap_ge w m 0 ty)
        refine by_value' hn (v := .slice (some ⟨w.heap.size, 0, none⟩) m (grownCap w m 0 ty)) (run_app ho hb hl hTT (by rw [hx.sn, hyv]; exact hr)) (k1 hmp _ (grownCap_ge w m 0 ty)) hsim (by simp) (fun n hn => plus_old _ _ _ hn) ?_
        simp only [M, M1, MC]
        exact ⟨by simp, grownCap_ge w m 0 ty, .inl (by simp [ad, plus_new])⟩
    · exact hw.elim
  · -- a row of its own, a slice
    rename_i nx ox len cap n d m mc e1 e2
    rw [e1] at hx
    rw [e2] at hy
    split at hw
    · rename_i ty' old r cs hb' hcs
      obtain ⟨⟨rfl, rfl, c1, rfl, c3, c4, c5⟩, k1⟩ := hw
      obtain ⟨vs, hm, hvl, hcell⟩ := win_vals hs.1 hcs c3
      have hco : cellsOf s.σ nx = some old := by simp [cellsOf, hb']
      obtain ⟨us, hmo, hul, hocell⟩ := win_vals hs.1 hco (show 0 + len * sz ≤ old.length by omega)
      obtain ⟨hltx, bx, hxv, hbx⟩ := hx.sl
      obtain ⟨hlt, b0, hyv, hb0⟩ := hy.sl
      obtain ⟨hlr, hblk⟩ := hs.1.bl nx _ hb'
      have hle : len ≤ cap := Nat.le_of_mul_le_mul_right (by omega) hpos
      have hw0 : win old 0 (len * sz) = old.take (len * sz) := by simp [win]
      rw [hw0] at hmo
      have hltn := (List.getElem?_eq_some_iff.1 hb').1
      rcases Nat.eq_zero_or_pos m with rfl | hmp
      · have hmv := (hs.1.retake hb' (len * sz)).move (n := nx) (ty := ty') (cs := old.take (len * sz)) (r := cap * sz) (by simp [hltn])
        rw [List.set_set, List.length_set] at hmv
        refine by_value' hn (v := .slice bx len cap) (run_app ho hb hl hTT ?_) (k1 cap hle) (by simpa [win] using hmv) (by simp) (fun n hn => plus_old _ _ _ hn) ?_
        · rw [hxv]; exact app_none hu hi _ _ _ _ hle _ ⟨_, _, hyv⟩
        · simp only [M, M1, MC]
          refine ⟨by simp, hle, ?_⟩
          rcases hbx with rfl | ⟨e3, e4, rfl⟩
          · exact .inl (by simp [ad, plus_new])
          · exact .inr ⟨by omega, e4, by rw [e3, e4]⟩
      · obtain rfl | ⟨e, _⟩ := hb0
        case inr => omega
        have hall := hmo.append hm
        have hlall : (us ++ vs).length = (len + m) * sz := by rw [List.length_append, hul, hvl, Nat.add_mul]
        by_cases hroom : len + m ≤ cap
        · obtain rfl | ⟨e3, e4, _⟩ := hbx
          case inr => omega
          have hr0 : cap * sz ≠ 0 := by have := Nat.mul_pos (show 0 < cap by omega) hpos; omega
          obtain ⟨h0, cur, hcur, hcsz, hcl⟩ := hblk hr0
          have hadd : ad ρ nx 0 = ⟨(ρ nx).1, 0, none⟩ := by unfold ad; rw [h0]
          rw [hadd] at hxv
          have hold := take_vals hcl (len * sz) c1
          have hall2 := hold.append hm
          have hfit : len * i.size + vs.length ≤ cur.size := by rw [hisz, hvl, hcsz, ← Nat.add_mul]; exact Nat.mul_le_mul_right _ hroom
          have hr := run_append_room (P := P) w T o.type ty' i hu hi (ρ nx).1 len cap cur hcur (ad ρ n d) m mc vs (by rw [hisz]; exact hvl) hcell hm.ones hroom hfit
          rw [hisz] at hr hfit
          have hsim := hs.1.write (w' := w.setRow (ρ nx).1 (cur.toList.take (len * sz) ++ vs ++ cur.toList.drop (len * sz + vs.length)).toArray) hb' hr0 (cs' := old.take (len * sz) ++ win cs d (m * sz)) (r' := cap * sz) _ rfl rfl rfl (by simp) (fun i hi hne => setRow_other w _ i _ hne) (setRow_heap w _ cur (cur.toList.take (len * sz) ++ vs ++ cur.toList.drop (len * sz + vs.length)).toArray ty' _ hcur)
            (by simp only [List.size_toArray, List.length_append, List.length_take, List.length_drop, Array.length_toList]; omega)
            (by have := hall.length; rw [hlall] at this; rw [this]; exact Nat.mul_le_mul_right _ hroom)
            (Cells.of_pre hall2)
          have hmv := hsim.move (n := nx) (ty := ty') (cs := old.take (len * sz) ++ win cs d (m * sz)) (r := cap * sz) (by simp [hltn])
          rw [List.set_set, List.length_set] at hmv
          refine by_value' hn (v := .slice (some ⟨(ρ nx).1, 0, none⟩) (len + m) cap) (run_app ho hb hl hTT (by rw [hxv, hyv]; exact hr)) (k1 cap hroom) hmv (by simp) (fun n hn => plus_old _ _ _ hn) ?_
          simp only [M, M1, MC]
          exact ⟨by simp, hroom, .inl (by simp [ad, plus_new, h0])⟩
        · have hgrow : ∃ capn, len + m ≤ capn ∧ (Builtin.append_ #[T, T] o.type #[a.eval p, a.eval q]).run P w = .ok (.slice (some ⟨w.heap.size, 0, none⟩) (len + m) capn)
              (w.drew.alloc (.cells ((us ++ vs).toArray ++ Builtin.zeroCells z.cells (capn - (len + m))) ty')) := by
            have e5 : (us ++ vs).toArray = us.toArray ++ vs.toArray := by apply Array.ext'; simp
            rw [e5]
            rcases hbx with rfl | ⟨rfl, rfl, rfl⟩
            · refine ⟨grownCap w (len + m) cap ty', grownCap_ge w _ cap ty', ?_⟩
              rw [hxv, hyv]
              exact run_append_grow (P := P) w T o.type ty' i z hu hi hz (ad ρ nx 0) len cap us (by rw [hisz]; exact hul) hocell (ad ρ n d) m mc vs (by rw [hisz]; exact hvl) hcell (by omega) (by omega) (growslice_fits (by omega) (by rw [hiby]; exact c4))
            · refine ⟨grownCap w m 0 ty', by have := grownCap_ge w m 0 ty'; omega, ?_⟩
              rw [hxv, hyv]
              have hus : us = [] := List.eq_nil_of_length_eq_zero (by rw [hul]; simp)
              subst hus
              have hr := run_append_nil (P := P) w T o.type ty' i z hu hi hz (ad ρ n d) m mc vs (by rw [hisz]; exact hvl) hcell hmp (by omega) (by rw [hiby]; simp at c4; omega)
              simpa using hr
          obtain ⟨capn, hcn, hr⟩ := hgrow
          have hsim := app_grow hs.1 ty' hall hlall z.cells hzsz capn hcn
          have hsim2 := hsim.kill nx
          rw [List.set_append_left _ _ hltn] at hsim2
          refine by_value' hn (v := .slice (some ⟨w.heap.size, 0, none⟩) (len + m) capn) (run_app ho hb hl hTT hr) (k1 _ hcn) hsim2 (by simp) (fun n hn => plus_old _ _ _ hn) ?_
          simp only [M, M1, MC]
          exact ⟨by simp, hcn, .inl (by simp [ad, plus_new])⟩
    · exact hw.elim
  · rename_i nx ox len cap e1 e2
    rw [e1] at hx
    rw [e2] at hy
    obtain ⟨_, bx, hxv, _⟩ := hx.sl
    refine by_value hs hn (v := a.eval p) (run_app ho hb hl hTT ?_) hw.2 hx
    rw [hxv]
    exact app_none hu hi _ _ _ _ hw.1 _ ⟨_, _, hy.sn⟩
  · rename_i e1 e2
    rw [e1] at hx
    rw [e2] at hy
    refine by_value hs hn (v := a.eval p) (run_app ho hb hl hTT ?_) hw hx
    rw [hx.sn]
    exact app_none hu hi _ _ _ _ (Nat.le_refl _) _ ⟨_, _, hy.sn⟩
  · exact hw.elim
theorem ok_appf {c : Call} {T ty : TypeId} {sz bytes : Nat} {x y : X} (ho : o.op = .call c) (hb : c.callee = .builtin .append) (ha : chkXs c.args.toList [x, y] = true) (hTT : c.argTypes.toList = [T, T]) (hT : slOf P T = some ty) (hsz : szIs P ty sz = true) (hby : byIs P ty bytes = true)
    (hzero : (P.info? ty).any (fun i => i.zero.any fun z => z.cells.size == sz) = true) (hpos : 0 < sz) (hs : SimS F ρ nt s a w) (hw : wpO P (.appf ty sz bytes x y) s K) (hn : Nxt o F ρ s a K next) : o.wp P a w next Q := by
  by_cases hxs : ev s.T x = .sn
  · refine ok_app ho hb ha hTT hT hsz hby hzero hpos hs ?_ hn
    simp only [wpO, hxs] at hw ⊢
    generalize ev s.T y = b at hw ⊢
    cases b <;> exact hw
  obtain ⟨p, q, hl, h1, h2⟩ := two_args ha
  have hx := chkX_ok hs h1
  have hy := chkX_ok hs h2
  have hu := slOf_get hT
  obtain ⟨i, z, hi, hz, hisz, hiby, hzsz⟩ := app_facts hsz hby hzero
  simp only [wpO] at hw
  split at hw
  · rename_i nx ox len cap n d m mc e1 e2
    rw [e1] at hx
    rw [e2] at hy
    split at hw
    · rename_i old cs hb' hcs
      obtain ⟨⟨c1, rfl, c3, c4, c5⟩, k0, k1⟩ := hw
      obtain ⟨vs, hm, hvl, hcell⟩ := win_vals hs.1 hcs c3
      obtain ⟨us, hmo, hul, hocell⟩ := win_vals hs.1 hb' c1
      obtain ⟨hltx, bx, hxv, hbx⟩ := hx.sl
      obtain ⟨hlt, b0, hyv, hb0⟩ := hy.sl
      rcases Nat.eq_zero_or_pos m with rfl | hmp
      · refine by_value hs hn (v := a.eval p) (run_app ho hb hl hTT ?_) (k0 rfl) hx
        rw [hxv]
        exact app_none hu hi _ _ _ _ (Nat.le_refl _) _ ⟨_, _, hyv⟩
      · obtain rfl | ⟨e, _⟩ := hb0
        case inr => omega
        have hlall : (us ++ vs).length = (len + m) * sz := by rw [List.length_append, hul, hvl, Nat.add_mul]
        have hgrow : ∃ capn, len + m ≤ capn ∧ (Builtin.append_ #[T, T] o.type #[a.eval p, a.eval q]).run P w = .ok (.slice (some ⟨w.heap.size, 0, none⟩) (len + m) capn)
            (w.drew.alloc (.cells ((us ++ vs).toArray ++ Builtin.zeroCells z.cells (capn - (len + m))) ty)) := by
          have e5 : (us ++ vs).toArray = us.toArray ++ vs.toArray := by apply Array.ext'; simp
          rw [e5]
          rcases hbx with rfl | ⟨rfl, _, rfl⟩
          · refine ⟨grownCap w (len + m) len ty, grownCap_ge w _ len ty, ?_⟩
            rw [hxv, hyv]
            exact run_append_grow (P := P) w T o.type ty i z hu hi hz (ad ρ nx ox) len len us (by rw [hisz]; exact hul) hocell (ad ρ n d) m mc vs (by rw [hisz]; exact hvl) hcell (by omega) (by omega) (growslice_fits (by omega) (by rw [hiby]; exact c4))
          · refine ⟨grownCap w m 0 ty, by have := grownCap_ge w m 0 ty; omega, ?_⟩
            rw [hxv, hyv]
            have hus : us = [] := List.eq_nil_of_length_eq_zero (by rw [hul]; simp)
            subst hus
            have hr := run_append_nil (P := P) w T o.type ty i z hu hi hz (ad ρ n d) m mc vs (by rw [hisz]; exact hvl) hcell hmp (by omega) (by rw [hiby]; simp at c4; omega)
            simpa using hr
        obtain ⟨capn, hcn, hr⟩ := hgrow
        have hsim := app_grow hs.1 ty (hmo.append hm) hlall z.cells hzsz capn hcn
        refine by_value' hn (v := .slice (some ⟨w.heap.size, 0, none⟩) (len + m) capn) (run_app ho hb hl hTT hr) (k1 hmp _ hcn) hsim (by simp) (fun n hn => plus_old _ _ _ hn) ?_
        simp only [M, M1, MC]
        exact ⟨by simp, hcn, .inl (by simp [ad, plus_new])⟩
    · exact hw.elim
  · rename_i nx ox len cap e1 e2
    rw [e1] at hx
    rw [e2] at hy
    obtain ⟨_, bx, hxv, _⟩ := hx.sl
    refine by_value hs hn (v := a.eval p) (run_app ho hb hl hTT ?_) hw.2 hx
    rw [hxv]
    exact app_none hu hi _ _ _ _ hw.1 _ ⟨_, _, hy.sn⟩
  · rename_i e1 _
    exact absurd e1 hxs
  · rename_i e1 e2
    rw [e1] at hx
    rw [e2] at hy
    refine by_value hs hn (v := a.eval p) (run_app ho hb hl hTT ?_) hw hx
    rw [hx.sn]
    exact app_none hu hi _ _ _ _ (Nat.le_refl _) _ ⟨_, _, hy.sn⟩
  · exact hw.elim
/-! ### structs compared -/
theorem isBoolT_get {T : TypeId} (h : isBoolT P T = true) : P.underlying T = some .bool := by
  unfold isBoolT at h
  split at h
  · assumption
  · cases h
theorem eqFields_ok {N : Nat} (d : Nat) : ∀ {fs : List Field} {q : List Bool} {k : Nat} {l r : List AV} {xs ys : Array Value}, flds P fs q k = true → Cells ρ N xs k l → Cells ρ N ys k r → aeqOk q l r →
    (Op.eqFields (d + 1) xs ys fs).run P w = .ok (aeq l r) w
  | [], [], k, [], [], xs, ys, _, _, _, _ => rfl
  | f :: fs, b :: q, k, x :: l, y :: r, xs, ys, hf, hx, hy, hok => by
    simp only [flds, Bool.and_eq_true, beq_iff_eq, decide_eq_true_eq] at hf
    obtain ⟨⟨⟨hoff, hname⟩, hkind⟩, hrest⟩ := hf
    obtain ⟨u, hu, hmu⟩ := hx 0 x rfl
    obtain ⟨v, hv, hmv⟩ := hy 0 y rfl
    rw [Nat.add_zero] at hu hv
    have hx' : Cells ρ N xs (k + 1) l := fun j z hj => by
      obtain ⟨t, h1, h2⟩ := hx (j + 1) z (by simpa using hj)
      exact ⟨t, by rw [show k + 1 + j = k + (j + 1) from by omega]; exact h1, h2⟩
    have hy' : Cells ρ N ys (k + 1) r := fun j z hj => by
      obtain ⟨t, h1, h2⟩ := hy (j + 1) z (by simpa using hj)
      exact ⟨t, by rw [show k + 1 + j = k + (j + 1) from by omega]; exact h1, h2⟩
    have hna : notAgg P f.type = true := by
      cases b
      · simp [notAgg, isBoolT_get hkind]
      · obtain ⟨q, hq⟩ := isIntT_get hkind; simp [notAgg, hq]
    have p1 : (part f.type xs f.offset).run P w = .ok u w := by simp [part, notAgg_run (P := P) (w := w) hna, hoff, hu]
    have p2 : (part f.type ys f.offset).run P w = .ok v w := by simp [part, notAgg_run (P := P) (w := w) hna, hoff, hv]
    have key : ∀ (c : Bool), (Op.equalIn (d + 1) f.type u v).run P w = .ok c w → aeqOk q l r → (Op.eqFields (d + 1) xs ys (f :: fs)).run P w = .ok (c && aeq l r) w := by
      intro c hc hok'
      have ih := eqFields_ok d hrest hx' hy' hok'
      simp only [Op.eqFields, ne_eq, hname, not_false_eq_true, if_true, Sem.run_bind, p1, p2, hc, Result.andThen_ok]
      cases c
      · simp
      · simp [ih]
    cases b
    · cases x <;> cases y <;> first | exact hok.elim | skip
      rename_i b1 b2
      simp only [MC] at hmu hmv
      subst hmu hmv
      have hq : (Op.equalIn (d + 1) f.type (.bool b1) (.bool b2)).run P w = .ok (decide (b1 = b2)) w := by
        rw [run_equalIn_bool' w d f.type b1 b2 (isBoolT_get hkind)]
        cases b1 <;> cases b2 <;> rfl
      exact key _ hq hok
    · cases x <;> cases y <;> first | exact hok.elim | skip
      rename_i k1 n1 k2 n2
      simp only [MC] at hmu hmv
      subst hmu hmv
      obtain ⟨hkk, hok⟩ := hok
      subst hkk
      obtain ⟨k', hk'⟩ := isIntT_get hkind
      have hq : (Op.equalIn (d + 1) f.type (.int k1 n1) (.int k1 n2)).run P w = .ok (decide (n1 = n2)) w := by
        simp [Op.equalIn, run_underlying hk']
        by_cases e : n1 = n2 <;> simp [e]
      exact key _ hq hok
  | [], _ :: _, _, _, _, _, _, h, _, _, _ => by cases h
  | _ :: _, [], _, _, _, _, _, h, _, _, _ => by cases h
  | [], [], _, [], _ :: _, _, _, _, _, _, h => h.elim
  | [], [], _, _ :: _, _, _, _, _, _, _, h => h.elim
  | _ :: _, b :: _, _, [], _, _, _, _, _, _, h => by cases b <;> exact h.elim
  | _ :: _, b :: _, _, x :: _, [], _, _, _, _, _, h => by cases b <;> cases x <;> exact h.elim
theorem ok_aeq {neg : Bool} {q : List Bool} {T T' : TypeId} {x y : Operand} {x' y' : X} (ho : o.op = .binOp (if neg then .neq else .eql) T x y T') (hT : structOk P T q = true) (h1 : chkX x x' = true) (h2 : chkX y y' = true) (hs : SimS F ρ nt s a w) (hw : wpO P (.aeq neg q x' y') s K) (hn : Nxt o F ρ s a K next) : o.wp P a w next Q := by
  have hx := chkX_ok hs h1
  have hy := chkX_ok hs h2
  simp only [structOk, Bool.and_eq_true, Bool.not_eq_true'] at hT
  obtain ⟨⟨hf, hp⟩, hg⟩ := hT
  split at hf
  · rename_i fs hu
    have hfo : P.fieldsOf T = fs := by simp [Program.fieldsOf, hu]
    simp only [wpO] at hw
    split at hw
    · rename_i l r e1 e2
      rw [e1] at hx
      rw [e2] at hy
      obtain ⟨vs, hv, hm⟩ := hx.aggv
      obtain ⟨us, hv', hm'⟩ := hy.aggv
      have c1 : Cells ρ s.σ.length vs.toArray 0 l := by have := Cells.of_pre (more := []) hm; simpa using this
      have c2 : Cells ρ s.σ.length us.toArray 0 r := by have := Cells.of_pre (more := []) hm'; simpa using this
      have hq : (Op.equalIn 10000 T (.agg vs.toArray) (.agg us.toArray)).run P w = .ok (aeq l r) w := by
        rw [run_equalIn_agg w 9999 T _ _ (by rw [hfo]; exact hu) hp, hfo]
        exact eqFields_ok 9998 hf c1 c2 hw.1
      have he : ∀ op, (eqGuard op T x y (.agg vs.toArray) (.agg us.toArray)).run P w = .ok () w := fun op => run_eqGuard_agg w op T x y _ _ hg
      have e3 := run_eql_struct (P := P) w T vs.toArray us.toArray
      have e4 := run_neq_struct (P := P) w T vs.toArray us.toArray
      rw [hq] at e3 e4
      cases neg
      · refine by_value hs hn (v := .bool (aeq l r)) ?_ hw.2 (by simp [M, M1, MC])
        unfold execOp
        simp only [ho, Bool.false_eq_true, if_false, hv, hv', Sem.run_bind, he, e3, Result.andThen_ok, Sem.run_pure]
      · refine by_value hs hn (v := .bool (!(aeq l r))) ?_ hw.2 (by simp [M, M1, MC])
        unfold execOp
        simp only [ho, if_true, hv, hv', Sem.run_bind, he, e4, Result.andThen_ok, Sem.run_pure]
    · exact hw.elim
  · cases hf
/-! ### all together -/
theorem ok_shr {T T' : TypeId} {x y : Operand} {x' y' : X} (ho : o.op = .binOp .shr T x y T') (h1 : chkX x x' = true) (h2 : chkX y y' = true) (hs : SimS F ρ nt s a w)
    (hw : wpO P (.shr x' y') s K) (hn : Nxt o F ρ s a K next) : o.wp P a w next Q := by
  have hx := chkX_ok hs h1
  have hy := chkX_ok hs h2
  simp only [wpO] at hw
  split at hw
  · rename_i k n k' m e1 e2
    obtain ⟨⟨rfl, hb, h0⟩, hk⟩ := hw
    rw [e1] at hx
    rw [e2] at hy
    have hr : (execOp a.eval o).run P w = .ok (.value (.int .u64 (shrv m n))) w := by
      unfold execOp
      rcases hb with rfl | rfl
      · simp [ho, hx.int, hy.int, binOp, eqGuard_plain (P := P) (w := w) (op := .shr) (T := T) (x := x) (y := y) (u := .int .u64 n) (v := .int k' 32) rfl (by simp), Op.shift, IntKind.bits, Int.fdiv_eq_ediv_of_nonneg, Result.andThen, shrv]
      · simp [ho, hx.int, hy.int, binOp, eqGuard_plain (P := P) (w := w) (op := .shr) (T := T) (x := x) (y := y) (u := .int .u64 n) (v := .int k' 1) rfl (by simp), Op.shift, IntKind.bits, Int.fdiv_eq_ediv_of_nonneg, Result.andThen, shrv]
    exact by_value hs hn hr hk (by simp [M, M1, MC])
  · exact hw.elim
theorem ok_copy {c : Call} {T T' e : TypeId} {x y : X} (ho : o.op = .call c) (hb : c.callee = .builtin .copy) (ha : chkXs c.args.toList [x, y] = true) (hT' : c.argTypes.toList = [T, T']) (hT : slOf P T = some e) (hz : szIs P e 1 = true)
    (hs : SimS F ρ nt s a w) (hw : wpO P (.copy x y) s K) (hn : Nxt o F ρ s a K next) : o.wp P a w next Q := by
  obtain ⟨p, q, ha', h1, h2⟩ := two_args ha
  have hx := chkX_ok hs h1
  have hy := chkX_ok hs h2
  obtain ⟨callee, args, argTypes⟩ := c
  obtain ⟨args⟩ := args
  obtain ⟨argTypes⟩ := argTypes
  simp only at hb ha' hT'
  subst hb ha' hT'
  have hu := slOf_get hT
  have hsz : (P.info? e).map (·.size) = some 1 := by
    unfold szIs at hz
    split at hz
    · rename_i i hi; rw [hi]; simp at hz ⊢; exact hz
    · cases hz
  simp only [wpO] at hw
  split at hw
  · rename_i n1 o1 l1 c1 n2 o2 l2 c2 e1 e2
    split at hw
    · rename_i ty cs r cs' hB1 hB2
      obtain ⟨⟨g1, g2⟩, hk⟩ := hw
      rw [e1] at hx
      rw [e2] at hy
      obtain ⟨_, b1, hv1, hb1⟩ := hx.sl
      obtain ⟨_, b2, hv2, hb2⟩ := hy.sl
      by_cases h0 : Nat.min l2 l1 = 0
      · have hr : (execOp a.eval o).run P w = .ok (.value (.int .i64 0)) w := by
          unfold execOp
          cases b1 <;> cases b2 <;> simp [ho, resolve, invoke, builtin, hv1, hv2, Builtin.copy_, run_underlying hu, Builtin.lenOf, h0, Builtin.firstCells, goInt, szIs_run (P := P) (w := w) hz, loadCells, loadCellsFrom, storeCells]
        rw [h0] at hk
        have e3 : s.σ.set n1 (.rw ty (spl cs o1 (win cs' o2 0)) r) = s.σ := by
          rw [show win cs' o2 0 = [] from by simp [win], show spl cs o1 [] = cs from rfl]
          apply List.ext_getElem?
          intro m
          rw [List.getElem?_set]
          split
          · rename_i e; subst e; first | exact hB1.symm | (rw [if_pos (List.getElem?_eq_some_iff.1 hB1).1]; exact hB1.symm)
          · rfl
        rw [e3] at hk
        exact by_value hs hn hr hk (by simp [M, M1, MC])
      · obtain ⟨vs, hvs, hlen, hcell⟩ := win_vals hs.1 hB2 g2
        have hl1 : l1 ≠ 0 := by rintro rfl; simp at h0
        have hl2 : l2 ≠ 0 := by rintro rfl; simp at h0
        have hb1' : b1 = some (ad ρ n1 o1) := by rcases hb1 with h | ⟨h, _⟩; · exact h
                                                 · exact absurd h hl1
        have hb2' : b2 = some (ad ρ n2 o2) := by rcases hb2 with h | ⟨h, _⟩; · exact h
                                                 · exact absurd h hl2
        subst hb1' hb2'
        obtain ⟨hlr, hbl⟩ := hs.1.bl n1 _ hB1
        have hr0 : r ≠ 0 := by omega
        obtain ⟨hp0, c, hc, hr, hcs⟩ := hbl hr0
        have hsize := Holds.size hcs
        have had : ad ρ n1 o1 = ⟨(ρ n1).1, o1, none⟩ := by unfold ad; rw [hp0]; simp
        have hcp := run_copy_row P w T T' o.type e (ρ n1).1 o1 l1 c1 (ad ρ n2 o2) l2 c2 c ty vs hu hsz hc hlen hcell (by omega) hvs.ones
        have hwl : (win cs' o2 (Nat.min l2 l1)).length = Nat.min l2 l1 := by rw [win, List.length_take, List.length_drop]; exact Nat.min_eq_left (by omega)
        refine by_value' (w' := w.setRow (ρ n1).1 _) (v := .int .i64 (Nat.min l2 l1)) (ρ' := ρ) hn ?_ hk (hs.1.write hB1 hr0 _ rfl rfl rfl (by simp) (fun i hi hne => setRow_other w _ i _ hne) (setRow_heap w _ c _ ty _ hc) ?_ (by rw [spl_length]; exact hlr) (hcs.spl hvs (by omega) hsize)) (by simp) (fun _ _ => rfl) (by simp [M, M1, MC])
        · unfold execOp
          simp [ho, resolve, invoke, builtin, hv1, hv2, had, hcp, hlen, goInt]
        · simp only [List.size_toArray, List.length_append, List.length_take, List.length_drop, Array.length_toList]
          omega
    · exact hw.elim
  · exact hw.elim
theorem zInt_get {e : TypeId} (h : zInt P e = true) : ∃ i, P.info? e = some i ∧ i.zero = some (.int .i64 0) := by
  unfold zInt at h
  split at h
  · rename_i i hi
    split at h
    · rename_i hz; exact ⟨i, hi, hz⟩
    · cases h
  · cases h
theorem set_oldE {σ : List AB} {n : Nat} {B : AB} (h : σ[n]? = some B) : σ.set n B = σ := by
  apply List.ext_getElem?
  intro m
  rw [List.getElem?_set]
  split
  · rename_i e; subst e; first | exact h.symm | (rw [if_pos (List.getElem?_eq_some_iff.1 h).1]; exact h.symm)
  · rfl
theorem ok_api {c : Call} {T ty : TypeId} {x y : X} (ho : o.op = .call c) (hb : c.callee = .builtin .append) (ha : chkXs c.args.toList [x, y] = true) (hTT : c.argTypes.toList = [T, T]) (hT : slOf P T = some ty) (hsz : szIs P ty 1 = true)
    (hs : SimS F ρ nt s a w) (hw : wpO P (.api ty x y) s K) (hn : Nxt o F ρ s a K next) : o.wp P a w next Q := by
  obtain ⟨p, q, hl, h1, h2⟩ := two_args ha
  have hx := chkX_ok hs h1
  have hy := chkX_ok hs h2
  have hu := slOf_get hT
  obtain ⟨i, hi, hisz⟩ : ∃ i, P.info? ty = some i ∧ i.size = 1 := by
    unfold szIs at hsz
    split at hsz
    · rename_i i hi; exact ⟨i, hi, by simpa using hsz⟩
    · cases hsz
  simp only [wpO] at hw
  split at hw
  · rename_i nx ox len cap n d m mc e1 e2
    split at hw
    · rename_i ty' old r cs hB1 hB2
      obtain ⟨⟨rfl, rfl, c1, rfl, c2, c3⟩, hk⟩ := hw
      rw [e1] at hx
      rw [e2] at hy
      obtain ⟨hltx, bx, hxv, hbx⟩ := hx.sl
      obtain ⟨hlt, b0, hyv, hb0⟩ := hy.sl
      rcases Nat.eq_zero_or_pos m with rfl | hmp
      · rw [show win cs d 0 = [] from by simp [win], show spl old len [] = old from rfl, set_oldE hB1] at hk
        refine by_value hs hn (v := a.eval p) (run_app ho hb hl hTT ?_) hk (by rw [← hxv] at *; exact hx)
        rw [hxv]; exact app_none hu hi _ _ _ _ (by omega) _ ⟨_, _, hyv⟩
      · obtain rfl | ⟨e, _⟩ := hb0
        case inr => omega
        obtain rfl | ⟨_, e4, _⟩ := hbx
        case inr => omega
        obtain ⟨vs, hvs, hlen, hcell⟩ := win_vals hs.1 hB2 c3
        obtain ⟨hlr, hbl⟩ := hs.1.bl nx _ hB1
        have hr0 : r ≠ 0 := by omega
        obtain ⟨hp0, cur, hcur, hcsz, hcs⟩ := hbl hr0
        have hsize := Holds.size hcs
        have had : ad ρ nx 0 = ⟨(ρ nx).1, 0, none⟩ := by unfold ad; rw [hp0]
        rw [had] at hxv
        have hwl : (win cs d m).length = m := by rw [win, List.length_take, List.length_drop]; exact Nat.min_eq_left (by omega)
        have hr := run_append_room (P := P) w T o.type ty' i hu hi (ρ nx).1 len r cur hcur (ad ρ n d) m mc vs (by rw [hisz, hlen, Nat.mul_one]) hcell hvs.ones c1 (by rw [hisz, hlen]; omega)
        rw [hisz, Nat.mul_one] at hr
        refine by_value' (w' := w.setRow (ρ nx).1 _) (v := .slice (some ⟨(ρ nx).1, 0, none⟩) (len + m) r) (ρ' := ρ) hn (run_app ho hb hl hTT (by rw [hxv, hyv]; exact hr)) hk
          (hs.1.write hB1 hr0 _ rfl rfl rfl (by simp) (fun i hi hne => setRow_other w _ i _ hne) (setRow_heap w _ cur _ ty' _ hcur) ?_ (by rw [spl_length]; exact hlr) (hcs.spl hvs (by omega) hsize)) (by simp) (fun _ _ => rfl) ?_
        · simp only [List.size_toArray, List.length_append, List.length_take, List.length_drop, Array.length_toList]
          omega
        · simp only [M, M1, MC]
          exact ⟨by simpa using hltx, c1, .inl (by simp [had])⟩
    · exact hw.elim
  · exact hw.elim
theorem zeroCells_int (n : Nat) : (Builtin.zeroCells #[.int .i64 0] n).toList = List.replicate n (.int .i64 0) := by
  apply List.ext_getElem
  · simp [Builtin.zeroCells]
  · intro k h1 h2
    simp [Builtin.zeroCells, Nat.mod_one]
theorem MCs.zeros {ρ : Pl} {N : Nat} : ∀ n, MCs ρ N (List.replicate n (.i .i64 0)) (List.replicate n (.int .i64 0))
  | 0 => trivial
  | n + 1 => ⟨by simp [MC], MCs.zeros n⟩
theorem ok_clr {c : Call} {T e : TypeId} {x : Operand} {y : X} (ho : o.op = .call c) (hb : c.callee = .builtin .clear) (ha : c.args.toList = [x]) (hT' : c.argTypes.toList = [T]) (hT : slOf P T = some e) (hz : zInt P e = true) (h1 : chkX x y = true)
    (hs : SimS F ρ nt s a w) (hw : wpO P (.clr y) s K) (hn : Nxt o F ρ s a K next) : o.wp P a w next Q := by
  have hx := chkX_ok hs h1
  obtain ⟨callee, args, argTypes⟩ := c
  obtain ⟨args⟩ := args
  obtain ⟨argTypes⟩ := argTypes
  simp only at hb ha hT'
  subst hb ha hT'
  have hu := slOf_get hT
  obtain ⟨i, hi, hzz⟩ := zInt_get hz
  simp only [wpO] at hw
  split at hw
  · rename_i n d len cap e1
    rw [e1] at hx
    split at hw
    · rename_i ty cs r hB
      obtain ⟨hle, hk⟩ := hw
      obtain ⟨hlt, b, hv, hb⟩ := hx.sl
      rcases Nat.eq_zero_or_pos len with rfl | hpos
      · rw [show List.replicate 0 (AV.i .i64 0) = [] from rfl, show spl cs d [] = cs from rfl, set_oldE hB] at hk
        refine by_value hs hn (v := .tuple #[]) ?_ hk (by simp [M, M1s])
        unfold execOp
        cases b <;> simp [ho, resolve, invoke, builtin, hv, Builtin.clear_, run_underlying hu]
      · obtain rfl | ⟨e, _⟩ := hb
        case inr => omega
        obtain ⟨hlr, hbl⟩ := hs.1.bl n _ hB
        have hr0 : r ≠ 0 := by omega
        obtain ⟨hp0, cur, hcur, hcsz, hcs⟩ := hbl hr0
        have hsize := Holds.size hcs
        have had : ad ρ n d = ⟨(ρ n).1, d, none⟩ := by unfold ad; rw [hp0]; simp
        rw [had] at hv
        have hvs := MCs.zeros (ρ := ρ) (N := s.σ.length) len
        have hst := run_storeCells_at P (ρ n).1 d ty (List.replicate len (.int .i64 0)) 0 cur w hcur (by rw [List.length_replicate]; omega) hvs.ones
        rw [Nat.add_zero] at hst
        have hzr : (zeroValue e).run P w = .ok (.int .i64 0) w := by simp [zeroValue, typeInfo, hi, hzz]
        refine by_value' (w' := w.setRow (ρ n).1 _) (v := .tuple #[]) (ρ' := ρ) hn ?_ hk
          (hs.1.write hB hr0 _ rfl rfl rfl (by simp) (fun i hi hne => setRow_other w _ i _ hne) (setRow_heap w _ cur _ ty _ hcur) ?_ (by rw [spl_length]; exact hlr) (hcs.spl hvs (by rw [List.length_replicate]; omega) hsize)) (by simp) (fun _ _ => rfl) (by simp [M, M1s])
        · unfold execOp
          obtain ⟨k, rfl⟩ : ∃ k, len = k + 1 := ⟨len - 1, by omega⟩
          simp [ho, resolve, invoke, builtin, hv, Builtin.clear_, run_underlying hu, hzr, Value.cells, zeroCells_int, hst]
        · simp only [List.size_toArray, List.length_append, List.length_take, List.length_drop, Array.length_toList, List.length_replicate]
          omega
    · exact hw.elim
  · exact hw.elim
/-! ### strings -/
theorem ok_sadd {T T' : TypeId} {x y : Operand} {x' y' : X} (ho : o.op = .binOp .add T x y T') (h1 : chkX x x' = true) (h2 : chkX y y' = true) (hs : SimS F ρ nt s a w)
    (hw : wpO P (.sadd x' y') s K) (hn : Nxt o F ρ s a K next) : o.wp P a w next Q := by
  have hx := chkX_ok hs h1
  have hy := chkX_ok hs h2
  simp only [wpO] at hw
  split at hw
  · rename_i b c e1 e2
    obtain ⟨hle, hk⟩ := hw
    rw [e1] at hx
    rw [e2] at hy
    have hg : (eqGuard .add T x y (.string b) (.string c)).run P w = .ok () w := eqGuard_plain rfl (by simp)
    have hb : binOp .add T (.string b) (.string c) = Op.stringOp .add b c := rfl
    refine by_value hs hn (v := .string (b ++ c)) ?_ hk (by simp [M, M1, MC])
    unfold execOp
    simp only [ho, hx.str, hy.str, Sem.run_bind, hg, hb, run_string_add_sum w b c hle, Result.andThen_ok, Sem.run_pure]
  · exact hw.elim
theorem bytes_eq {b c : ByteArray} : (b.toList == c.toList) = decide (b = c) := by
  rw [Bool.eq_iff_iff]
  simp only [beq_iff_eq, decide_eq_true_eq]
  constructor
  · intro h
    rw [ByteArray.toList_eq, ByteArray.toList_eq] at h
    exact ByteArray.ext (Array.toList_inj.1 h)
  · rintro rfl; rfl
theorem ok_scmp {neg : Bool} {op : BinOp} {T T' : TypeId} {x y : Operand} {x' y' : X} (ho : o.op = .binOp op T x y T') (hop : op = if neg then .neq else .eql) (h1 : chkX x x' = true) (h2 : chkX y y' = true) (hs : SimS F ρ nt s a w)
    (hw : wpO P (.scmp neg x' y') s K) (hn : Nxt o F ρ s a K next) : o.wp P a w next Q := by
  have hx := chkX_ok hs h1
  have hy := chkX_ok hs h2
  simp only [wpO] at hw
  split at hw
  · rename_i b c e1 e2
    rw [e1] at hx
    rw [e2] at hy
    have hg : (eqGuard op T x y (.string b) (.string c)).run P w = .ok () w := eqGuard_plain rfl (by simp)
    cases neg
    · have hop' : op = .eql := by simpa using hop
      subst hop'
      have hb : binOp .eql T (.string b) (.string c) = Op.stringOp .eql b c := rfl
      have hr : (Op.stringOp .eql b c).run P w = .ok (.bool (b.toList == c.toList)) w := rfl
      refine by_value hs hn (v := .bool (b.toList == c.toList)) ?_ hw (by simp only [M, M1, MC]; rw [bytes_eq]; simp)
      unfold execOp
      simp only [ho, hx.str, hy.str, Sem.run_bind, hg, hb, hr, Result.andThen_ok, Sem.run_pure]
    · have hop' : op = .neq := by simpa using hop
      subst hop'
      have hb : binOp .neq T (.string b) (.string c) = Op.stringOp .neq b c := rfl
      have hr : (Op.stringOp .neq b c).run P w = .ok (.bool (!(b.toList == c.toList))) w := rfl
      refine by_value hs hn (v := .bool (!(b.toList == c.toList))) ?_ hw (by simp only [M, M1, MC]; rw [bytes_eq]; simp)
      unfold execOp
      simp only [ho, hx.str, hy.str, Sem.run_bind, hg, hb, hr, Result.andThen_ok, Sem.run_pure]
  · exact hw.elim
theorem ok_sidx {T : TypeId} {x y : Operand} {x' y' : X} (ho : o.op = .index T x y) (hT : isStrT P T = true) (h1 : chkX x x' = true) (h2 : chkX y y' = true) (hs : SimS F ρ nt s a w)
    (hw : wpO P (.sidx x' y') s K) (hn : Nxt o F ρ s a K next) : o.wp P a w next Q := by
  have hx := chkX_ok hs h1
  have hy := chkX_ok hs h2
  simp only [wpO] at hw
  split at hw
  · rename_i b k j e1 e2
    obtain ⟨hj, hk⟩ := hw
    rw [e1] at hx
    rw [e2] at hy
    have hi := run_index_string (P := P) w T b k j (isStrT_get hT)
    rw [dif_pos hj] at hi
    refine by_value hs hn (v := .int .u8 (b[j.toNat]'(by omega)).toNat) ?_ hk ?_
    · unfold execOp
      simp only [ho, hx.str, hy.int, Sem.run_bind, hi, Result.andThen_ok, Sem.run_pure]
    · have h3 : j.toNat < b.data.toList.length := by have := hj.2; simp only [Array.length_toList]; exact (by have : b.size = b.data.size := rfl; omega)
      simp only [M, M1, MC]
      rw [List.getD_eq_getElem?_getD, List.getElem?_eq_getElem h3]
      rfl
  · exact hw.elim
theorem ok_sslc {T : TypeId} {x : Operand} {lo hi : Option Operand} {x' : X} {lo' hi' : Option X} (ho : o.op = .slice T x lo hi none) (hT : isStrT P T = true) (h1 : chkX x x' = true) (h2 : chkXo lo lo' = true) (h3 : chkXo hi hi' = true) (hs : SimS F ρ nt s a w)
    (hw : wpO P (.sslc x' lo' hi') s K) (hn : Nxt o F ρ s a K next) : o.wp P a w next Q := by
  have hx := chkX_ok hs h1
  have hu := isStrT_get hT
  simp only [wpO] at hw
  split at hw
  · rename_i b e1
    rw [e1] at hx
    have hat : ∀ l h : Option Value, (Instr.sliceAt T (.string b) l h none).run P w = (Instr.slice T (.string b) l h none).run P w := fun l h => run_sliceAt_string w T _ l h none hu
    rcases bnd_ok hs h2 hw with ⟨rfl, rfl, hw⟩ | ⟨pl, ql, kl, nl, rfl, rfl, el, zl, hw⟩
    · rcases bnd_ok hs h3 hw with ⟨rfl, rfl, hw⟩ | ⟨ph, qh, kh, nh, rfl, rfl, eh, zh, hw⟩
      · refine by_value hs hn (v := .string (b.extract 0 b.size)) ?_ hw.2 (by simp [M, M1, MC])
        unfold execOp
        simp only [ho, hx.str, Option.map_none, Sem.run_bind, hat, run_slice_string_all w T b hu, Result.andThen_ok, Sem.run_pure]
      · have hr := run_slice_string_to_if (P := P) w T b kh nh hu
        rw [if_pos (by omega)] at hr
        refine by_value hs hn (v := .string (b.extract 0 nh.toNat)) ?_ hw.2 (by simp [M, M1, MC])
        unfold execOp
        simp only [ho, hx.str, eh, Option.map_none, Option.map_some, Sem.run_bind, hat, hr, Result.andThen_ok, Sem.run_pure]
    · rcases bnd_ok hs h3 hw with ⟨rfl, rfl, hw⟩ | ⟨ph, qh, kh, nh, rfl, rfl, eh, zh, hw⟩
      · have hr := run_slice_string_from_if (P := P) w T b kl nl hu
        rw [if_pos (by omega)] at hr
        refine by_value hs hn (v := .string (b.extract nl.toNat b.size)) ?_ hw.2 (by simp [M, M1, MC])
        unfold execOp
        simp only [ho, hx.str, el, Option.map_none, Option.map_some, Sem.run_bind, hat, hr, Result.andThen_ok, Sem.run_pure]
      · have hr := run_slice_string (P := P) w T b kl kh nl nh hu zl (by omega) (by omega)
        refine by_value hs hn (v := .string (b.extract nl.toNat nh.toNat)) ?_ hw.2 (by simp [M, M1, MC])
        unfold execOp
        simp only [ho, hx.str, el, eh, Option.map_none, Option.map_some, Sem.run_bind, hat, hr, Result.andThen_ok, Sem.run_pure]
  · exact hw.elim
theorem isBy_vals {ρ : Pl} {N : Nat} : ∀ {l : List AV} {vs : List Value}, isBy l = true → MCs ρ N l vs → ∃ ns : List Int, vs = ns.map (Value.int .u8) ∧ toBy l = ns.map fun n => UInt8.ofNat n.toNat
  | [], [], _, _ => ⟨[], rfl, rfl⟩
  | [], _ :: _, _, h => h.elim
  | .i .u8 n :: l, v :: vs, hb, h => by
    obtain ⟨ns, h1, h2⟩ := isBy_vals (l := l) hb h.2
    have h3 := h.1
    simp only [MC] at h3
    exact ⟨n :: ns, by rw [h3, h1]; rfl, by simp only [toBy, h2, List.map_cons]⟩
  | .i .u8 _ :: _, [], _, h => h.elim
theorem push_all : ∀ (ns : List Int) (r : ByteArray), ns.foldl (fun r n => r.push (UInt8.ofNat n.toNat)) r = ⟨(r.data.toList ++ ns.map fun n => UInt8.ofNat n.toNat).toArray⟩
  | [], r => by cases r; simp
  | n :: ns, r => by
    rw [List.foldl_cons, push_all ns]
    cases r
    simp [ByteArray.push]
theorem ok_cvb {src dst e : TypeId} {x : Operand} {y : X} (ho : o.op = .convert src dst x) (hT : slOf P src = some e) (he : P.underlying e = some (.int .u8)) (hd : isStrT P dst = true) (h1 : chkX x y = true) (hs : SimS F ρ nt s a w)
    (hw : wpO P (.cvb y) s K) (hn : Nxt o F ρ s a K next) : o.wp P a w next Q := by
  have hx := chkX_ok hs h1
  have hu := slOf_get hT
  simp only [wpO] at hw
  split at hw
  · rename_i n d len cap e1
    rw [e1] at hx
    split at hw
    · rename_i cs hcs
      obtain ⟨⟨hle, hby⟩, hk⟩ := hw
      obtain ⟨vs, hvs, hlen, hcell⟩ := win_vals hs.1 hcs hle
      obtain ⟨ns, hns, hto⟩ := isBy_vals hby hvs
      obtain ⟨hlt, b, hv, hb⟩ := hx.sl
      have hc := run_convert_bytes_string (P := P) w src dst e b len cap hu he (isStrT_get hd)
      have hfin : (Conv.bytesToString (.slice b len cap)).run P w = .ok (.string ⟨(toBy (win cs d len)).toArray⟩) w := by
        rcases hb with rfl | ⟨rfl, rfl, rfl⟩
        · have hl := run_loadCells_list (P := P) w (ad ρ n d) vs hcell
          rw [hlen, hns] at hl
          rw [run_bytesToString w (ad ρ n d) len cap ns hl, push_all, hto]
          simp
        · have : vs = [] := List.eq_nil_of_length_eq_zero hlen
          subst this
          have hns0 : ns = [] := by cases ns with | nil => rfl | cons => cases hns
          subst hns0
          rw [hto]
          rfl
      refine by_value hs hn (v := .string ⟨(toBy (win cs d len)).toArray⟩) ?_ hk (by simp [M, M1, MC])
      unfold execOp
      simp only [ho, hv, Sem.run_bind, hc, hfin, Result.andThen_ok, Sem.run_pure]
    · exact hw.elim
  · exact hw.elim
theorem ok_inil {neg : Bool} {op : BinOp} {T T' : TypeId} {ms : Array (String × TypeId)} {x : Operand} {y : X} (ho : o.op = .binOp op T x (.const .nilIface) T') (hop : op = if neg then .neq else .eql) (hT : P.underlying T = some (.interface ms)) (h1 : chkX x y = true) (hs : SimS F ρ nt s a w)
    (hw : wpO P (.inil neg y) s K) (hn : Nxt o F ρ s a K next) : o.wp P a w next Q := by
  have hx := chkX_ok hs h1
  have hc : a.eval (.const .nilIface) = .nilIface := rfl
  have hd : ∀ (d : Nat), (Op.equalIn (d + 1) T .nilIface .nilIface).run P w = .ok true w := fun d => by simp [Op.equalIn, run_underlying hT]
  have hd2 : ∀ (d : Nat) t v, (Op.equalIn (d + 1) T (.iface t v) .nilIface).run P w = .ok false w := fun d t v => by simp [Op.equalIn, run_underlying hT]
  simp only [wpO] at hw
  split at hw
  · rename_i e1
    rw [e1] at hx
    have hv : a.eval x = .nilIface := by simpa [M, M1, MC] using hx.2
    have hq : (Op.equal T .nilIface .nilIface).run P w = .ok true w := hd 9999
    have hg : (eqGuard op T x (.const .nilIface) .nilIface .nilIface).run P w = .ok () w := by
      unfold eqGuard
      subst hop
      cases neg <;> simp
    cases neg
    · have hop' : op = .eql := by simpa using hop
      subst hop'
      have hb : binOp .eql T .nilIface .nilIface = (do pure (.bool (← Op.equal T .nilIface .nilIface))) := rfl
      refine by_value hs hn (v := .bool true) ?_ hw (by simp [M, M1, MC])
      unfold execOp
      simp only [ho, hv, hc, Sem.run_bind, hg, hb, hq, Result.andThen_ok, Sem.run_pure]
    · have hop' : op = .neq := by simpa using hop
      subst hop'
      have hb : binOp .neq T .nilIface .nilIface = (do pure (.bool (!(← Op.equal T .nilIface .nilIface)))) := rfl
      refine by_value hs hn (v := .bool false) ?_ hw (by simp [M, M1, MC])
      unfold execOp
      simp only [ho, hv, hc, Sem.run_bind, hg, hb, hq, Result.andThen_ok, Sem.run_pure, Bool.not_true]
  · rename_i t v e1
    rw [e1] at hx
    have hv : a.eval x = .iface t v := by simpa [M, M1, MC] using hx.2
    have hone : (Value.iface t v).oneCell' = true := by have := hx.1; rwa [hv] at this
    have hq : (Op.equal T (.iface t v) .nilIface).run P w = .ok false w := hd2 9999 t v
    have hg : (eqGuard op T x (.const .nilIface) (.iface t v) .nilIface).run P w = .ok () w := eqGuard_plain hone (by simp)
    cases neg
    · have hop' : op = .eql := by simpa using hop
      subst hop'
      have hb : binOp .eql T (.iface t v) .nilIface = (do pure (.bool (← Op.equal T (.iface t v) .nilIface))) := rfl
      refine by_value hs hn (v := .bool false) ?_ hw (by simp [M, M1, MC])
      unfold execOp
      simp only [ho, hv, hc, Sem.run_bind, hg, hb, hq, Result.andThen_ok, Sem.run_pure]
    · have hop' : op = .neq := by simpa using hop
      subst hop'
      have hb : binOp .neq T (.iface t v) .nilIface = (do pure (.bool (!(← Op.equal T (.iface t v) .nilIface)))) := rfl
      refine by_value hs hn (v := .bool true) ?_ hw (by simp [M, M1, MC])
      unfold execOp
      simp only [ho, hv, hc, Sem.run_bind, hg, hb, hq, Result.andThen_ok, Sem.run_pure, Bool.not_false]
  · exact hw.elim
theorem mapOf_get {T k e : TypeId} (h : mapOf P T k e = true) : P.underlying T = some (.map k e) ∧ P.underlying k = some (.int .i64) ∧ P.underlying e = some (.int .i64) := by
  unfold mapOf at h
  simp only [Bool.and_eq_true] at h
  obtain ⟨⟨h1, h2⟩, h3⟩ := h
  refine ⟨?_, ?_, ?_⟩
  · split at h1
    · rename_i k' e' hk; simp only [Bool.and_eq_true, beq_iff_eq] at h1; rw [hk, h1.1, h1.2]
    · cases h1
  · split at h2
    · assumption
    · cases h2
  · split at h3
    · assumption
    · cases h3
theorem zInt_run {e : TypeId} (h : zInt P e = true) (w : World) : (zeroValue e).run P w = .ok (.int .i64 0) w := by
  unfold zInt at h
  split at h
  · rename_i i hi
    split at h
    · rename_i hz
      simp [zeroValue, typeInfo, hi, hz]
    · cases h
  · cases h
theorem wf_fits {y : Int} (h : fits .i64 y) : (Lit.int .i64 y).wf = true := by
  simp only [fits] at h
  simp [Lit.wf, IntKind.min, IntKind.max, IntKind.signed, IntKind.bits]; omega
theorem ok_mkm {T k e : TypeId} (ho : o.op = .makeMap T none) (hT : mapOf P T k e = true) (hs : SimS F ρ nt s a w) (hw : wpO P (.mkm k e) s K) (hn : Nxt o F ρ s a K next) : o.wp P a w next Q := by
  have hr : (execOp a.eval o).run P w = .ok (.value (.map (some w.heap.size))) (w.alloc (.map #[] 0)) := by
    simp [execOp, ho, RowKit.run_makeMap, Result.andThen]
  refine by_value' hn hr (ρ' := plus ρ s.σ.length (w.heap.size, 0)) hw (hs.1.allocMap P k e) (by simp) (fun n hn => plus_old _ _ _ hn) ?_
  simp only [M, M1, MC, plus_new]
  exact ⟨by simp, trivial⟩
theorem ok_lk {T k e : TypeId} {m x : Operand} {m' x' : X} (ho : o.op = .lookup T m x true) (hT : mapOf P T k e = true) (hz : zInt P e = true) (h1 : chkX m m' = true) (h2 : chkX x x' = true) (hs : SimS F ρ nt s a w)
    (hw : wpO P (.lk k e m' x') s K) (hn : Nxt o F ρ s a K next) : o.wp P a w next Q := by
  have hm := chkX_ok hs h1
  have hx := chkX_ok hs h2
  obtain ⟨t1, t2, t3⟩ := mapOf_get hT
  simp only [wpO] at hw
  split at hw
  · rename_i n y e1 e2
    split at hw
    · rename_i P' k' e' c f hB
      obtain ⟨⟨rfl, rfl, rfl, hy⟩, hk⟩ := hw
      rw [e1] at hm
      rw [e2] at hx
      have hm' : a.eval m = .map (some (ρ n).1) := by simp only [M, M1, MC] at hm; exact hm.2
      have hx' := hx.int
      obtain ⟨_, D, hown, hD⟩ := hs.1.bl _ _ hB
      have hkey : keyOf P' k' (.int .i64 y) = some (.int .i64 y) := Maps.keyOf_int_mk t2 (wf_fits hy)
      obtain ⟨v, ps, hrun, hv⟩ := hown.look_ok (Maps.int_keyed t2) t1 (zInt_run hz w) (plainElem_int t3 (by decide)) hkey
      obtain ⟨z, rfl, hc, hwc⟩ := plainElem_int_inv t3 hv
      have hat := congrArg Prod.fst hc
      simp only at hat
      obtain ⟨g1, g2⟩ := hD y
      have hr : (execOp a.eval o).run P' w = .ok (.value (.tuple #[.int .i64 z, .bool (f y).isSome])) w := by
        simp [execOp, ho, hm', hx', hrun, Result.andThen, g1]
      refine by_value hs hn hr hk ?_
      refine ⟨[.int .i64 z, .bool (f y).isSome], rfl, ?_, ?_, trivial⟩
      · simp only [M1, MC]
        rw [g2] at hat
        simp only [DataW.lit.injEq, Lit.int.injEq, true_and] at hat
        rw [hat]
      · simp only [M1, MC]
    · exact hw.elim
  · exact hw.elim
theorem ok_mup {T k e : TypeId} {m x v : Operand} {m' x' v' : X} (ho : o.op = .mapUpdate T m x v) (hT : mapOf P T k e = true) (h1 : chkX m m' = true) (h2 : chkX x x' = true) (h3 : chkX v v' = true) (hs : SimS F ρ nt s a w)
    (hw : wpO P (.mup k e m' x' v') s K) (hn : Nxt o F ρ s a K next) : o.wp P a w next Q := by
  have hm := chkX_ok hs h1
  have hx := chkX_ok hs h2
  have hv := chkX_ok hs h3
  obtain ⟨t1, t2, t3⟩ := mapOf_get hT
  simp only [wpO] at hw
  split at hw
  · rename_i n y z e1 e2 e3
    split at hw
    · rename_i P' k' e' c f hB
      obtain ⟨⟨rfl, rfl, rfl, hy, hz, hc⟩, hk⟩ := hw
      rw [e1] at hm
      rw [e2] at hx
      rw [e3] at hv
      have hm' : a.eval m = .map (some (ρ n).1) := by simp only [M, M1, MC] at hm; exact hm.2
      have hx' := hx.int
      have hv' := hv.int
      obtain ⟨h0, D, hown, hD⟩ := hs.1.bl _ _ hB
      have hkey : keyOf P' k' (.int .i64 y) = some (.int .i64 y) := Maps.keyOf_int_mk t2 (wf_fits hy)
      obtain ⟨w', hrun, hown', hgrow⟩ := hown.update (Maps.int_keyed t2) t1 (by unfold maxLen; omega) hkey (plainElem_int t3 (wf_fits hz))
      have hr : (execOp a.eval o).run P' w = .ok .skip w' := by
        simp [execOp, ho, hm', hx', hv', hrun, Result.andThen]
      refine by_skip' hn hr (ρ' := ρ) hk ?_ (by simp) (fun _ _ => rfl)
      refine hs.1.writeB hB trivial (fun _ => trivial) hgrow.os hgrow.tape hgrow.output hgrow.size (fun i hi hne => hgrow.block i hi (fun e => hne (by simpa using e))) ⟨h0, _, hown', fun u => ?_⟩
      by_cases hu : u = y
      · subst hu
        have hmap : Maps.IsMap D := by obtain ⟨es, clock, _, _, _, hD⟩ := hown; exact ⟨_, hD⟩
        have hkl : WideAt.IsKeyLit (Lit.int .i64 u) := by simp [WideAt.IsKeyLit]
        exact ⟨(Maps.has_put_same hmap hkl _).trans (by simp), (Maps.atKey_put_same hmap hkl _ _).trans (by simp)⟩
      · have hne : (Lit.int .i64 u) ≠ .int .i64 y := fun e => hu (by cases e; rfl)
        obtain ⟨g1, g2⟩ := hD u
        exact ⟨(Maps.has_put_other hne _).trans (g1.trans (by simp [hu])), (Maps.atKey_put_other hne _ _).trans (g2.trans (by simp [hu]))⟩
    · exact hw.elim
  · exact hw.elim
theorem op_ok {lo : LO} (hc : chkO P o lo = true) (hs : SimS F ρ nt s a w) (hw : wpO P lo s K) (hn : Nxt o F ρ s a K next) : o.wp P a w next Q := by
  unfold chkO at hc
  split at hc
  · rename_i hop; exact ok_mv (.inl hop) hc hs hw hn
  · rename_i hop; exact ok_mv (.inr hop) hc hs hw hn
  · rename_i hop; simp only [Bool.and_eq_true] at hc; exact ok_pick hop hc.1.1 hc.1.2 hc.2 hs hw hn
  · rename_i hop; simp only [Bool.and_eq_true, beq_iff_eq] at hc; obtain ⟨⟨rfl, h1⟩, h2⟩ := hc; exact ok_bin hop h1 h2 hs hw hn
  · rename_i hop; simp only [Bool.and_eq_true, beq_iff_eq] at hc; obtain ⟨⟨⟨rfl, h0⟩, h1⟩, h2⟩ := hc; exact ok_beq hop (isBoolT_get h0) h1 h2 hs hw hn
  · rename_i hop; simp only [Bool.and_eq_true, beq_iff_eq] at hc; obtain ⟨⟨⟨rfl, h0⟩, h1⟩, h2⟩ := hc; exact ok_aeq hop h0 h1 h2 hs hw hn
  · rename_i hop; simp only [Bool.and_eq_true, beq_iff_eq] at hc; obtain ⟨rfl, h1⟩ := hc; exact ok_not hop h1 hs hw hn
  · rename_i hop; simp only [Bool.and_eq_true, beq_iff_eq] at hc; obtain ⟨rfl, h1⟩ := hc; exact ok_neg hop h1 hs hw hn
  · rename_i hop; simp only [Bool.and_eq_true] at hc; exact ok_ld hop hc.1 hc.2 hs hw hn
  · rename_i hop; simp only [Bool.and_eq_true] at hc; exact ok_ldn hop hc.1.1 hc.1.2 hc.2 hs hw hn
  · rename_i hop; simp only [Bool.and_eq_true, decide_eq_true_eq] at hc; exact ok_st hop hc.1.1.1 hc.1.1.2 hc.1.2 hc.2 hs hw hn
  · rename_i hop
    simp only [Bool.and_eq_true] at hc
    obtain ⟨h0, h1⟩ := hc
    split at h0
    · rename_i d' t hoff
      simp only [Bool.and_eq_true, beq_iff_eq, Bool.not_eq_true'] at h0
      obtain ⟨⟨rfl, h2⟩, h3⟩ := h0
      exact ok_fa hop hoff h2 h3 h1 hs hw hn
    · cases h0
  · rename_i hop
    simp only [Bool.and_eq_true] at hc
    obtain ⟨⟨h0, h1⟩, h2⟩ := hc
    split at h0
    · rename_i e he
      exact ok_ia hop he h0 h1 h2 hs hw hn
    · cases h0
  · rename_i hop
    simp only [Bool.and_eq_true] at hc
    obtain ⟨h0, h1⟩ := hc
    split at h0
    · rename_i d' t hoff
      simp only [Bool.and_eq_true, beq_iff_eq] at h0
      obtain ⟨rfl, h2⟩ := h0
      exact ok_fld hop hoff h2 h1 hs hw hn
    · cases h0
  · rename_i hop; simp only [Bool.and_eq_true, beq_iff_eq] at hc; obtain ⟨rfl, h1⟩ := hc; exact ok_box hop h1 hs hw hn
  · rename_i hop; simp only [Bool.and_eq_true, beq_iff_eq] at hc; obtain ⟨rfl, h1⟩ := hc; exact ok_alloc hop h1 hs hw hn
  · rename_i hop; simp only [Bool.and_eq_true] at hc; exact ok_build hop hc.1 hc.2 hs hw hn
  · rename_i hop
    simp only [Bool.and_eq_true, beq_iff_eq, Bool.not_eq_true', decide_eq_true_eq] at hc
    obtain ⟨⟨⟨⟨⟨h0, h1⟩, h2⟩, rfl⟩, h3⟩, h4⟩ := hc
    exact ok_bsl hop h0 h1 h2 h3 h4 hs hw hn
  · rename_i hop
    simp only [Bool.and_eq_true, beq_iff_eq, Bool.not_eq_true', decide_eq_true_eq] at hc
    obtain ⟨⟨⟨⟨⟨⟨h0, h1⟩, h2⟩, h3⟩, h4⟩, h5⟩, h6⟩ := hc
    exact ok_msl hop h0 h1 h2 h3 h4 h5 h6 hs hw hn
  · rename_i hop
    simp only [Bool.and_eq_true, Bool.or_eq_true] at hc
    obtain ⟨⟨⟨⟨⟨h0, h1⟩, h2⟩, h3⟩, h4⟩, h5⟩ := hc
    split at h0
    · rename_i e he
      exact ok_slc hop he h0 h1 h2 h3 h4 h5 hs hw hn
    · cases h0
  · rename_i c y hop
    simp only [Bool.and_eq_true] at hc
    obtain ⟨h0, h1⟩ := hc
    split at h0
    · rename_i hcal
      split at h1
      · rename_i x T ha hT
        simp only [Bool.and_eq_true] at h1
        exact ok_len hop hcal ha hT h1.1 h1.2 hs hw hn
      · cases h1
    · cases h0
  · rename_i c y hop
    simp only [Bool.and_eq_true] at hc
    obtain ⟨h0, h1⟩ := hc
    split at h0
    · rename_i hcal
      split at h1
      · rename_i x T ha hT
        simp only [Bool.and_eq_true] at h1
        exact ok_slen hop hcal ha hT h1.1 h1.2 hs hw hn
      · cases h1
    · cases h0
  · rename_i c x y hop
    simp only [Bool.and_eq_true] at hc
    obtain ⟨h0, h1⟩ := hc
    split at h0
    · rename_i hcal; exact ok_mn hop hcal h1 hs hw hn
    · cases h0
  · rename_i c x y hop
    simp only [Bool.and_eq_true] at hc
    obtain ⟨h0, h1⟩ := hc
    split at h0
    · rename_i hcal; exact ok_mx hop hcal h1 hs hw hn
    · cases h0
  · rename_i c ty sz bytes x y hop
    simp only [Bool.and_eq_true, decide_eq_true_eq] at hc
    obtain ⟨⟨⟨⟨⟨⟨h0, h1⟩, h2⟩, h3⟩, h4⟩, h5⟩, h6⟩ := hc
    split at h0
    · rename_i hcal
      split at h2
      · rename_i T T' hT
        simp only [Bool.and_eq_true, beq_iff_eq] at h2
        obtain ⟨rfl, h2⟩ := h2
        exact ok_app hop hcal h1 hT h2 h3 h4 h5 h6 hs hw hn
      · cases h2
    · cases h0
  · rename_i c ty sz bytes x y hop
    simp only [Bool.and_eq_true, decide_eq_true_eq] at hc
    obtain ⟨⟨⟨⟨⟨⟨h0, h1⟩, h2⟩, h3⟩, h4⟩, h5⟩, h6⟩ := hc
    split at h0
    · rename_i hcal
      split at h2
      · rename_i T T' hT
        simp only [Bool.and_eq_true, beq_iff_eq] at h2
        obtain ⟨rfl, h2⟩ := h2
        exact ok_appf hop hcal h1 hT h2 h3 h4 h5 h6 hs hw hn
      · cases h2
    · cases h0
  · rename_i c f args hop
    simp only [Bool.and_eq_true] at hc
    obtain ⟨h0, h1⟩ := hc
    split at h0
    · rename_i g hcal; exact ok_call hop hcal h0 h1 hs hw hn
    · cases h0
  · rename_i f a' c' g x y hop
    simp only [Bool.and_eq_true] at hc
    obtain ⟨⟨h0, h1⟩, h2⟩ := hc
    split at h0
    · rename_i h; exact ok_mkf hop (by simpa using h0) h1 h2 hs hw hn
    · cases h0
  · rename_i hop; simp only [Bool.and_eq_true, beq_iff_eq] at hc; obtain ⟨rfl, h1⟩ := hc; exact ok_ext hop h1 hs hw hn
  · rename_i hop
    simp only [Bool.and_eq_true] at hc
    obtain ⟨⟨h0, h1⟩, h2⟩ := hc
    split at h1
    · rename_i k' hk
      obtain rfl : k' = _ := by simpa using h1
      exact ok_conv hop h0 hk h2 hs hw hn
    · cases h1
  · rename_i hop; exact ok_nilc hop hc hs hw hn
  · exact hw.elim
  · rename_i hop; simp only [Bool.and_eq_true] at hc; exact ok_shr hop hc.1 hc.2 hs hw hn
  · rename_i c x y hop
    simp only [Bool.and_eq_true] at hc
    obtain ⟨⟨h0, h1⟩, h2⟩ := hc
    split at h0
    · rename_i hcal
      split at h2
      · rename_i T T' hT
        split at h2
        · rename_i e he
          exact ok_copy hop hcal h1 hT he h2 hs hw hn
        · cases h2
      · cases h2
    · cases h0
  · rename_i hop; simp only [Bool.and_eq_true] at hc; exact ok_sadd hop hc.1 hc.2 hs hw hn
  · rename_i hop; simp only [Bool.and_eq_true, beq_iff_eq] at hc; exact ok_scmp hop hc.1.1 hc.1.2 hc.2 hs hw hn
  · rename_i hop; simp only [Bool.and_eq_true] at hc; exact ok_sidx hop hc.1.1 hc.1.2 hc.2 hs hw hn
  · rename_i hop; simp only [Bool.and_eq_true] at hc; exact ok_sslc hop hc.1.1.1 hc.1.1.2 hc.1.2 hc.2 hs hw hn
  · rename_i hop
    simp only [Bool.and_eq_true] at hc
    obtain ⟨⟨h0, h1⟩, h2⟩ := hc
    split at h0
    · rename_i e he
      split at h0
      · rename_i hk; exact ok_cvb hop he hk h1 h2 hs hw hn
      · cases h0
    · cases h0
  · rename_i hop
    simp only [Bool.and_eq_true, beq_iff_eq] at hc
    obtain ⟨⟨h0, h1⟩, h2⟩ := hc
    split at h1
    · rename_i ms hk; exact ok_inil hop h0 hk h2 hs hw hn
    · cases h1
  · rename_i hop; exact ok_mkm hop hc hs hw hn
  · rename_i c ty x y hop
    simp only [Bool.and_eq_true] at hc
    obtain ⟨⟨⟨h0, h1⟩, h2⟩, h3⟩ := hc
    split at h0
    · rename_i hcal
      split at h2
      · rename_i T T' hT
        simp only [Bool.and_eq_true, beq_iff_eq] at h2
        obtain ⟨rfl, h2⟩ := h2
        exact ok_api hop hcal h1 hT h2 h3 hs hw hn
      · cases h2
    · cases h0
  · rename_i c x hop
    simp only [Bool.and_eq_true] at hc
    obtain ⟨h0, h1⟩ := hc
    split at h0
    · rename_i hcal
      split at h1
      · rename_i y T ha hT
        simp only [Bool.and_eq_true] at h1
        obtain ⟨h1, h2⟩ := h1
        split at h1
        · rename_i e he
          exact ok_clr hop hcal ha hT he h1 h2 hs hw hn
        · cases h1
      · cases h1
    · cases h0
  · rename_i hop; simp only [Bool.and_eq_true] at hc; exact ok_snil hop hc.1 hc.2 hs hw hn
  · rename_i hop; simp only [Bool.and_eq_true] at hc; exact ok_lk hop hc.1.1.1 hc.1.1.2 hc.1.2 hc.2 hs hw hn
  · rename_i hop; simp only [Bool.and_eq_true] at hc; exact ok_mup hop hc.1.1.1 hc.1.1.2 hc.1.2 hc.2 hs hw hn
  · cases hc
end
end Go.Abs
