import Derived.Test.YtnlciginmeebhaaS50
import Derived.Test.YtnlciginmeebhaaE1
namespace Go.Proofs.Ytnlciginmeebhaa
open Go.Abs Go.Ds
set_option linter.unusedSimpArgs false
set_option linter.unusedVariables false
set_option maxRecDepth 20000
def encSrv : Enc Srv := ⟨fun s => [.i .i64 s.B, .i .i64 s.P], 2, fun _ => rfl, fun _ => rfl⟩
theorem lenSv (L : List Srv) : (encSrv.row L).length = L.length * 2 := encSrv.row_length L
theorem rdSv0 {L : List Srv} {k : Nat} (h : k < L.length) : rd (encSrv.row L) (k * 2) = .i .i64 (L[k]'h).B := encSrv.rd L k 0 h (by decide)
theorem rdSv1 {L : List Srv} {k : Nat} (h : k < L.length) : rd (encSrv.row L) (k * 2 + 1) = .i .i64 (L[k]'h).P := encSrv.rd L k 1 h (by decide)
theorem encSvf (s : Srv) : encSrv.f s = [.i .i64 s.B, .i .i64 s.P] := rfl
theorem impl_ServersValid_1_ (x : Srv) {σ : List AB} {K : AV → List AB → Prop} (hk : K (.b (!decide x.ok)) σ) : CallWp Try.prog n_impl_ServersValid_1 [.agg (encSrv.f x)] σ K := by
  refine call0 (r := .b (!decide x.ok)) ?_ rfl rfl hk
  refine call_impl_ServersValid_1 (by simp) ?_
  simp only [c_impl_ServersValid_1, encSvf, not_true_eq_false, not_false_eq_true, decide_true, decide_false, Bool.not_true, Bool.not_false, false_implies, true_implies, and_true, true_and, Bool.false_eq_true, Bool.true_eq_false, implies_true, Bool.not_not, Classical.not_not, go_sem, Int.reduceToNat, List.take_nil, Nat.zero_mul, Nat.reduceEqDiff, Nat.reduceAdd, Nat.reduceLT, Nat.reduceLeDiff, Nat.reduceMul, ↓reduceIte, reduceCtorEq]
  refine impl_in_ _ _ _ ?_
  have e : ∀ b : Bool, (b = true ↔ ¬ x.ok) → (decide ¬ x.ok) = b := fun b h => by
    cases b
    · have : x.ok := Classical.byContradiction fun hn => by have := h.2 hn; cases this
      simp [this]
    · simp [h.1 rfl]
  simp only [not_true_eq_false, not_false_eq_true, decide_true, decide_false, Bool.not_true, Bool.not_false, false_implies, true_implies, and_true, true_and, Bool.false_eq_true, Bool.true_eq_false, implies_true, Bool.not_not, Classical.not_not, go_sem, Int.reduceToNat, List.take_nil, Nat.zero_mul, Nat.reduceEqDiff, Nat.reduceAdd, Nat.reduceLT, Nat.reduceLeDiff, Nat.reduceMul, ↓reduceIte, reduceCtorEq]
  refine ⟨fun h1 => ?_, fun h1 => ?_⟩
  · refine Fin.pick [] (.b (decide (12 < x.P))) _ ⟨?_, rfl⟩
    congr 1; symm; apply e
    unfold Srv.ok
    rw [decide_eq_true_iff]
    omega
  · refine Fin.pick [] (.b true) _ ⟨?_, rfl⟩
    congr 1; symm; apply e
    unfold Srv.ok
    simp only [true_iff]
    exact fun g => h1 g.1
section
variable {f : Nat} {first caps : List (Nat × Nat)} {σ : List AB} {v : AV} {L : List Srv} {K : AV → List AB → Prop}
theorem slices_IndexFunc_impl_Server_ (hs : L.length ≤ 1099511627776) (h : Rd encSrv σ v L) (p : Srv → Bool) (hp : ∀ t ∈ L, ∀ K : AV → List AB → Prop, K (.b (p t)) σ → CallWp Try.prog f (pAV first ++ [.agg (encSrv.f t)] ++ pAV caps) σ K)
    (hk : K (.i .i64 (idxF p L)) σ) : CallWp Try.prog n_slices_IndexFunc_impl_Server [v, .fn f first caps] σ K := by
  refine call_slices_IndexFunc_impl_Server (by simp) ?_
  rcases h with ⟨n, o, cap, cs, rfl, hn, hc, hle, hw⟩ | ⟨rfl, rfl, h0⟩
  · simp only [c_slices_IndexFunc_impl_Server, go_sem, Int.reduceToNat, List.take_nil, Nat.zero_mul, Nat.reduceEqDiff, Nat.reduceAdd, Nat.reduceLT, Nat.reduceLeDiff, Nat.reduceMul, ↓reduceIte, reduceCtorEq]
    refine loop_count L.length (fun k => ⟨[(0, .sl n o L.length cap), (1, .fn f first caps), (7, .i .i64 L.length), (8, .i .i64 k)], σ⟩) (fun k => ∀ x ∈ L.take k, p x = false) (by simp) (Wk.keep (by simp [look_cons])) fun k hkl hJ => ?_
    simp only [l0_slices_IndexFunc_impl_Server, go_sem, Int.reduceToNat, List.take_nil, Nat.zero_mul, Nat.reduceEqDiff, Nat.reduceAdd, Nat.reduceLT, Nat.reduceLeDiff, Nat.reduceMul, ↓reduceIte, reduceCtorEq]
    refine ⟨fun h => ⟨by omega, ?_⟩, fun h => ?_⟩
    · obtain ⟨h1, h2⟩ := win_at hle hw k h
      simp only [encSrv] at h1 h2
      rw [onC_of hc]
      refine ⟨h1, ?_⟩
      rw [h2]
      refine hp _ (List.getElem_mem _) _ ?_
      simp only [go_sem, Int.reduceToNat, List.take_nil, Nat.zero_mul, Nat.reduceEqDiff, Nat.reduceAdd, Nat.reduceLT, Nat.reduceLeDiff, Nat.reduceMul, ↓reduceIte, reduceCtorEq]
      refine bc_of (fun h3 => Fin.plain ?_) fun h3 => ⟨by omega, ⟨h, (all_take_succ h).2 ⟨hJ, h3⟩⟩, Wk.keep (by simp [look_cons])⟩
      rw [← idxF_found h hJ h3]; exact hk
    · have e : k = L.length := by omega
      subst e
      rw [List.take_length] at hJ
      refine Fin.plain ?_
      rw [← idxF_none hJ]; exact hk
  · simp only [c_slices_IndexFunc_impl_Server, go_sem, Int.reduceToNat, List.take_nil, Nat.zero_mul, Nat.reduceEqDiff, Nat.reduceAdd, Nat.reduceLT, Nat.reduceLeDiff, Nat.reduceMul, ↓reduceIte, reduceCtorEq]
    refine loop_count 0 (fun k => ⟨[(0, .sn), (1, .fn f first caps), (7, .i .i64 0), (8, .i .i64 k)], σ⟩) (fun k => k = 0) rfl (Wk.keep (by simp [look_cons])) fun k hkl hJ => ?_
    subst hJ
    simp only [l0_slices_IndexFunc_impl_Server, go_sem, Int.reduceToNat, List.take_nil, Nat.zero_mul, Nat.reduceEqDiff, Nat.reduceAdd, Nat.reduceLT, Nat.reduceLeDiff, Nat.reduceMul, ↓reduceIte, reduceCtorEq]
    refine ⟨fun h => ?_, fun h => Fin.plain ?_⟩
    · exact absurd h (by simp)
    · rw [← idxF_none (p := p) (L := []) (by simp)]; exact hk
theorem slices_ContainsFunc_impl_Server_ (hs : L.length ≤ 1099511627776) (h : Rd encSrv σ v L) (p : Srv → Bool) (hp : ∀ t ∈ L, ∀ K : AV → List AB → Prop, K (.b (p t)) σ → CallWp Try.prog f (pAV first ++ [.agg (encSrv.f t)] ++ pAV caps) σ K)
    (hk : K (.b (decide (∃ x ∈ L, p x = true))) σ) : CallWp Try.prog n_slices_ContainsFunc_impl_Server [v, .fn f first caps] σ K := by
  refine call_slices_ContainsFunc_impl_Server (by simp) ?_
  simp only [c_slices_ContainsFunc_impl_Server, h.data, go_sem, Int.reduceToNat, List.take_nil, Nat.zero_mul, Nat.reduceEqDiff, Nat.reduceAdd, Nat.reduceLT, Nat.reduceLeDiff, Nat.reduceMul, ↓reduceIte, reduceCtorEq]
  refine slices_IndexFunc_impl_Server_ hs h p hp ?_
  simp only [go_sem, Int.reduceToNat, List.take_nil, Nat.zero_mul, Nat.reduceEqDiff, Nat.reduceAdd, Nat.reduceLT, Nat.reduceLeDiff, Nat.reduceMul, ↓reduceIte, reduceCtorEq]
  refine Fin.plain ?_
  rw [decide_eq_decide.2 idxF_any]; exact hk
end
theorem impl_ServersValid0 (L : List Srv) (hs : L.length ≤ 1099511627776) (c : Nat) : CallWp Try.prog n_impl_ServersValid [.sl 0 0 L.length c] [.ro (encSrv.row L)] (fun x σ => x = .b (decide (srvOk L)) ∧ σ = [.ro (encSrv.row L)]) := by
  refine call_impl_ServersValid (by simp) ?_
  simp only [c_impl_ServersValid, go_sem, Int.reduceToNat, List.take_nil, Nat.zero_mul, Nat.reduceEqDiff, Nat.reduceAdd, Nat.reduceLT, Nat.reduceLeDiff, Nat.reduceMul, ↓reduceIte, reduceCtorEq]
  refine ⟨fun h => ?_, fun h => Fin.same ?_⟩
  · refine slices_ContainsFunc_impl_Server_ hs (Rd.own rfl) (fun t => !decide t.ok) (fun t _ K hk => impl_ServersValid_1_ t hk) ?_
    simp only [go_sem, Int.reduceToNat, List.take_nil, Nat.zero_mul, Nat.reduceEqDiff, Nat.reduceAdd, Nat.reduceLT, Nat.reduceLeDiff, Nat.reduceMul, ↓reduceIte, reduceCtorEq]
    refine Fin.same ?_
    congr 1; apply decide_eq_decide.2
    simp only [srvOk, not_exists, not_and, decide_eq_true_eq, Decidable.not_not]
    exact ⟨fun h1 => ⟨by omega, by simpa using h1⟩, fun h1 => by simpa using h1.2⟩
  · congr 1; symm; apply decide_eq_false
    intro h1; have := h1.1; omega
theorem impl_ServersValid_ {L : List Srv} (hs : L.length ≤ 1099511627776) {v : AV} {σ : List AB} (h : Rd encSrv σ v L) {K : AV → List AB → Prop} (hk : K (.b (decide (srvOk L))) σ) : CallWp Try.prog n_impl_ServersValid [v] σ K :=
  call_rds _ (rds1 h.r) (fun c => [.sl 0 0 L.length (c 0)]) (fun c => impl_ServersValid0 L hs (c 0)) (fun ν c h => ⟨h.1, trivial⟩) (fun _ => rfl) rfl hk
theorem spec_ServersValid0 (L : List Srv) (hs : L.length ≤ 1099511627776) (c : Nat) : CallWp Try.prog n_spec_ServersValid [.sl 0 0 L.length c] [.ro (encSrv.row L)] (fun x σ => x = .b (decide (srvOk L)) ∧ σ = [.ro (encSrv.row L)]) := by
  refine call_spec_ServersValid (by simp) ?_
  simp only [c_spec_ServersValid, go_sem, Int.reduceToNat, List.take_nil, Nat.zero_mul, Nat.reduceEqDiff, Nat.reduceAdd, Nat.reduceLT, Nat.reduceLeDiff, Nat.reduceMul, ↓reduceIte, reduceCtorEq]
  refine loop_count L.length (fun k => ⟨[(0, .sl 0 0 L.length c), (3, .i .i64 k)], [.ro (encSrv.row L)]⟩) (fun k => ∀ x ∈ L.take k, x.ok) (by simp) (Wk.pick [0]) fun k hk hJ => ?_
  simp only [l0_spec_ServersValid, go_sem, Int.reduceToNat, List.take_nil, Nat.zero_mul, Nat.reduceEqDiff, Nat.reduceAdd, Nat.reduceLT, Nat.reduceLeDiff, Nat.reduceMul, ↓reduceIte, reduceCtorEq]
  refine ⟨fun h => ?_, fun h => ?_⟩
  · have no : ¬ L[k].ok → Fin 1 [.ro (encSrv.row L)] (.b false) (fun x σ => x = .b (decide (srvOk L)) ∧ σ = [.ro (encSrv.row L)]) := fun hn => Fin.same (by rw [decide_eq_false fun hs => hn (hs.2 _ (List.getElem_mem h))])
    have nxt : L[k].ok → ∀ x ∈ L.take (k + 1), x.ok := fun hy => (all_take_succ h).2 ⟨hJ, hy⟩
    unfold Srv.ok at no nxt
    simp only [rdSv0 h, rdSv1 h, lenSv, not_true_eq_false, not_false_eq_true, decide_true, decide_false, Bool.not_true, Bool.not_false, false_implies, true_implies, and_true, true_and, Bool.false_eq_true, Bool.true_eq_false, implies_true, Bool.not_not, Classical.not_not, go_sem, Int.reduceToNat, List.take_nil, Nat.zero_mul, Nat.reduceEqDiff, Nat.reduceAdd, Nat.reduceLT, Nat.reduceLeDiff, Nat.reduceMul, ↓reduceIte, reduceCtorEq]
    refine ⟨h, by omega, h, by omega, onCall.by (spec_l1In_ _ _ _ ⟨rfl, rfl⟩) ?_⟩
    simp only [rdSv0 h, rdSv1 h, lenSv, not_true_eq_false, not_false_eq_true, decide_true, decide_false, Bool.not_true, Bool.not_false, false_implies, true_implies, and_true, true_and, Bool.false_eq_true, Bool.true_eq_false, implies_true, Bool.not_not, Classical.not_not, go_sem, Int.reduceToNat, List.take_nil, Nat.zero_mul, Nat.reduceEqDiff, Nat.reduceAdd, Nat.reduceLT, Nat.reduceLeDiff, Nat.reduceMul, ↓reduceIte, reduceCtorEq]
    refine ⟨fun h1 => ⟨h, by omega, onCall.by (spec_l1In_ _ _ _ ⟨rfl, rfl⟩) ?_⟩, fun h1 => no fun hh => h1 hh.1⟩
    simp only [not_true_eq_false, not_false_eq_true, decide_true, decide_false, Bool.not_true, Bool.not_false, false_implies, true_implies, and_true, true_and, Bool.false_eq_true, Bool.true_eq_false, implies_true, Bool.not_not, Classical.not_not, go_sem, Int.reduceToNat, List.take_nil, Nat.zero_mul, Nat.reduceEqDiff, Nat.reduceAdd, Nat.reduceLT, Nat.reduceLeDiff, Nat.reduceMul, ↓reduceIte, reduceCtorEq]
    exact ⟨fun h2 => no fun hh => h2 ⟨by omega, hh.2⟩, fun h2 => ⟨by omega, ⟨h, nxt ⟨h1, h2.2⟩⟩, Wk.pick [0]⟩⟩
  · have e : k = L.length := by omega
    subst e
    rw [List.take_length] at hJ
    refine Fin.same ?_
    congr 1; apply decide_eq_decide.2
    exact ⟨fun h => ⟨by omega, hJ⟩, fun h => by have := h.1; omega⟩
theorem spec_ServersValid_ {L : List Srv} (hs : L.length ≤ 1099511627776) {v : AV} {σ : List AB} (h : Rd encSrv σ v L) {K : AV → List AB → Prop} (hk : K (.b (decide (srvOk L))) σ) : CallWp Try.prog n_spec_ServersValid [v] σ K :=
  call_rds _ (rds1 h.r) (fun c => [.sl 0 0 L.length (c 0)]) (fun c => spec_ServersValid0 L hs (c 0)) (fun ν c h => ⟨h.1, trivial⟩) (fun _ => rfl) rfl hk
def RdA (σ : List AB) (v : AV) (AA : List (List Arr)) : Prop :=
  (∃ n o cap cs, v = .sl n o AA.length cap ∧ cellsOf σ n = some cs ∧ o + AA.length ≤ cs.length ∧ ∀ k (h : k < AA.length), Rd encArr σ (rd cs (o + k)) AA[k]) ∨ (v = .sn ∧ AA = [] ∧ 0 < σ.length)
theorem RdA.app {σ τ : List AB} {v : AV} {AA : List (List Arr)} (h : RdA σ v AA) : RdA (σ ++ τ) v AA := by
  rcases h with ⟨n, o, cap, cs, h1, h2, h3, h4⟩ | ⟨h1, h2, h3⟩
  · exact .inl ⟨n, o, cap, cs, h1, cells_old h2 τ, h3, fun k hk => (h4 k hk).app⟩
  · exact .inr ⟨h1, h2, by rw [List.length_append]; omega⟩
theorem RdA.data {σ : List AB} {v : AV} {AA : List (List Arr)} (h : RdA σ v AA) : v.data = true := by
  rcases h with ⟨n, o, cap, cs, rfl, _⟩ | ⟨rfl, _⟩ <;> rfl
section
variable {f : Nat} {first caps : List (Nat × Nat)} {σ : List AB} {v : AV} {AA : List (List Arr)} {K : AV → List AB → Prop}
theorem slices_IndexFunc_AA_ (hs : AA.length ≤ 1099511627776) (h : RdA σ v AA) (p : List Arr → Bool) (hp : ∀ A ∈ AA, ∀ u, Rd encArr σ u A → ∀ K : AV → List AB → Prop, K (.b (p A)) σ → CallWp Try.prog f (pAV first ++ [u] ++ pAV caps) σ K)
    (hk : K (.i .i64 (idxF p AA)) σ) : CallWp Try.prog n_slices_IndexFunc_impl_Arrival_impl_Arrival [v, .fn f first caps] σ K := by
  refine call_slices_IndexFunc_impl_Arrival_impl_Arrival (by simp) ?_
  rcases h with ⟨n, o, cap, cs, rfl, hc, hle, hw⟩ | ⟨rfl, rfl, h0⟩
  · simp only [c_slices_IndexFunc_impl_Arrival_impl_Arrival, go_sem, Int.reduceToNat, List.take_nil, Nat.zero_mul, Nat.reduceEqDiff, Nat.reduceAdd, Nat.reduceLT, Nat.reduceLeDiff, Nat.reduceMul, ↓reduceIte, reduceCtorEq]
    refine loop_count AA.length (fun k => ⟨[(0, .sl n o AA.length cap), (1, .fn f first caps), (7, .i .i64 AA.length), (8, .i .i64 k)], σ⟩) (fun k => ∀ x ∈ AA.take k, p x = false) (by simp) (Wk.keep (by simp [look_cons])) fun k hkl hJ => ?_
    simp only [l0_slices_IndexFunc_impl_Arrival_impl_Arrival, go_sem, Int.reduceToNat, List.take_nil, Nat.zero_mul, Nat.reduceEqDiff, Nat.reduceAdd, Nat.reduceLT, Nat.reduceLeDiff, Nat.reduceMul, ↓reduceIte, reduceCtorEq]
    refine ⟨fun h => ⟨by omega, ?_⟩, fun h => ?_⟩
    · rw [onC_of hc]
      have hr := hw k h
      refine ⟨by omega, hr.data, ?_⟩
      refine hp _ (List.getElem_mem h) _ hr _ ?_
      simp only [go_sem, Int.reduceToNat, List.take_nil, Nat.zero_mul, Nat.reduceEqDiff, Nat.reduceAdd, Nat.reduceLT, Nat.reduceLeDiff, Nat.reduceMul, ↓reduceIte, reduceCtorEq]
      refine bc_of (fun h3 => Fin.plain ?_) fun h3 => ⟨by omega, ⟨h, (all_take_succ h).2 ⟨hJ, h3⟩⟩, Wk.keep (by simp [look_cons])⟩
      rw [← idxF_found h hJ h3]; exact hk
    · have e : k = AA.length := by omega
      subst e
      rw [List.take_length] at hJ
      refine Fin.plain ?_
      rw [← idxF_none hJ]; exact hk
  · simp only [c_slices_IndexFunc_impl_Arrival_impl_Arrival, go_sem, Int.reduceToNat, List.take_nil, Nat.zero_mul, Nat.reduceEqDiff, Nat.reduceAdd, Nat.reduceLT, Nat.reduceLeDiff, Nat.reduceMul, ↓reduceIte, reduceCtorEq]
    refine loop_count 0 (fun k => ⟨[(0, .sn), (1, .fn f first caps), (7, .i .i64 0), (8, .i .i64 k)], σ⟩) (fun k => k = 0) rfl (Wk.keep (by simp [look_cons])) fun k hkl hJ => ?_
    subst hJ
    simp only [l0_slices_IndexFunc_impl_Arrival_impl_Arrival, go_sem, Int.reduceToNat, List.take_nil, Nat.zero_mul, Nat.reduceEqDiff, Nat.reduceAdd, Nat.reduceLT, Nat.reduceLeDiff, Nat.reduceMul, ↓reduceIte, reduceCtorEq]
    refine ⟨fun h => ?_, fun h => Fin.plain ?_⟩
    · exact absurd h (by simp)
    · rw [← idxF_none (p := p) (L := []) (by simp)]; exact hk
theorem slices_ContainsFunc_AA_ (hs : AA.length ≤ 1099511627776) (h : RdA σ v AA) (p : List Arr → Bool) (hp : ∀ A ∈ AA, ∀ u, Rd encArr σ u A → ∀ K : AV → List AB → Prop, K (.b (p A)) σ → CallWp Try.prog f (pAV first ++ [u] ++ pAV caps) σ K)
    (hk : K (.b (decide (∃ x ∈ AA, p x = true))) σ) : CallWp Try.prog n_slices_ContainsFunc_impl_Arrival_impl_Arrival [v, .fn f first caps] σ K := by
  refine call_slices_ContainsFunc_impl_Arrival_impl_Arrival (by simp) ?_
  simp only [c_slices_ContainsFunc_impl_Arrival_impl_Arrival, h.data, go_sem, Int.reduceToNat, List.take_nil, Nat.zero_mul, Nat.reduceEqDiff, Nat.reduceAdd, Nat.reduceLT, Nat.reduceLeDiff, Nat.reduceMul, ↓reduceIte, reduceCtorEq]
  refine slices_IndexFunc_AA_ hs h p hp ?_
  simp only [go_sem, Int.reduceToNat, List.take_nil, Nat.zero_mul, Nat.reduceEqDiff, Nat.reduceAdd, Nat.reduceLT, Nat.reduceLeDiff, Nat.reduceMul, ↓reduceIte, reduceCtorEq]
  refine Fin.plain ?_
  rw [decide_eq_decide.2 idxF_any]; exact hk
end
theorem impl_RunServers_1_ {A : List Arr} (hs : A.length ≤ 1099511627776) {v : AV} {σ : List AB} (h : Rd encArr σ v A) {K : AV → List AB → Prop} (hk : K (.b (!decide (arrLegal A))) σ) : CallWp Try.prog n_impl_RunServers_1 [v] σ K := by
  refine call_rds _ (rds1 h.r) (fun c => [.sl 0 0 A.length (c 0)]) (r := .b (!decide (arrLegal A))) (fun c => ?_) (fun ν c h => ⟨h.1, trivial⟩) (fun _ => rfl) rfl hk
  refine call_impl_RunServers_1 (by simp) ?_
  simp only [c_impl_RunServers_1, not_true_eq_false, not_false_eq_true, decide_true, decide_false, Bool.not_true, Bool.not_false, false_implies, true_implies, and_true, true_and, Bool.false_eq_true, Bool.true_eq_false, implies_true, Bool.not_not, Classical.not_not, go_sem, Int.reduceToNat, List.take_nil, Nat.zero_mul, Nat.reduceEqDiff, Nat.reduceAdd, Nat.reduceLT, Nat.reduceLeDiff, Nat.reduceMul, ↓reduceIte, reduceCtorEq]
  refine impl_ArrivalsLegal_ hs (Rd.own rfl) ?_
  simp only [not_true_eq_false, not_false_eq_true, decide_true, decide_false, Bool.not_true, Bool.not_false, false_implies, true_implies, and_true, true_and, Bool.false_eq_true, Bool.true_eq_false, implies_true, Bool.not_not, Classical.not_not, go_sem, Int.reduceToNat, List.take_nil, Nat.zero_mul, Nat.reduceEqDiff, Nat.reduceAdd, Nat.reduceLT, Nat.reduceLeDiff, Nat.reduceMul, ↓reduceIte, reduceCtorEq]
  exact Fin.plain ⟨rfl, rfl⟩
end Go.Proofs.Ytnlciginmeebhaa
