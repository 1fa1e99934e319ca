import Derived.Test.YtnlciginmeebhaaS50
import Derived.Test.YtnlciginmeebhaaE1
import Derived.Test.YtnlciginmeebhaaM41
import Derived.Test.YtnlciginmeebhaaS39
import Derived.Test.YtnlciginmeebhaaM43
import Derived.Test.YtnlciginmeebhaaE2
namespace Go.Proofs.Ytnlciginmeebhaa
open Go.Abs Go.Ds
set_option linter.unusedSimpArgs false
set_option linter.unusedVariables false
set_option maxRecDepth 20000
def encSrv : Enc Srv := ⟨fun s => [.i .i64 s.B, .i .i64 s.P], 2, fun _ => rfl, fun _ => rfl⟩
theorem lenSv (L : List Srv) : (encSrv.row L).length = L.length * 2 := encSrv.row_length L
theorem rdSv0 {L : List Srv} {k : Nat} (h : k < L.length) : rd (encSrv.row L) (k * 2) = .i .i64 (L[k]'h).B := encSrv.rd L k 0 h (by decide)
theorem rdSv1 {L : List Srv} {k : Nat} (h : k < L.length) : rd (encSrv.row L) (k * 2 + 1) = .i .i64 (L[k]'h).P := encSrv.rd L k 1 h (by decide)
theorem encSvf (s : Srv) : encSrv.f s = [.i .i64 s.B, .i .i64 s.P] := rfl
theorem impl_ServersValid_1_ (x : Srv) {σ : List AB} {K : AV → List AB → Prop} (hk : K (.b (!decide x.ok)) σ) : CallWp Try.prog n_impl_ServersValid_1 [.agg (encSrv.f x)] σ K := by
  refine call0 (r := .b (!decide x.ok)) ?_ rfl rfl hk
  refine call_impl_ServersValid_1 (by simp) ?_
  simp only [c_impl_ServersValid_1, encSvf, not_true_eq_false, not_false_eq_true, decide_true, decide_false, Bool.not_true, Bool.not_false, false_implies, true_implies, and_true, true_and, Bool.false_eq_true, Bool.true_eq_false, implies_true, Bool.not_not, Classical.not_not, go_sem, Int.reduceToNat, List.take_nil, Nat.zero_mul, Nat.reduceEqDiff, Nat.reduceAdd, Nat.reduceLT, Nat.reduceLeDiff, Nat.reduceMul, ↓reduceIte, reduceCtorEq]
  refine impl_in_ _ _ _ ?_
  have e : ∀ b : Bool, (b = true ↔ ¬ x.ok) → (decide ¬ x.ok) = b := fun b h => by
    cases b
    · have : x.ok := Classical.byContradiction fun hn => by have := h.2 hn; cases this
      simp [this]
    · simp [h.1 rfl]
  simp only [not_true_eq_false, not_false_eq_true, decide_true, decide_false, Bool.not_true, Bool.not_false, false_implies, true_implies, and_true, true_and, Bool.false_eq_true, Bool.true_eq_false, implies_true, Bool.not_not, Classical.not_not, go_sem, Int.reduceToNat, List.take_nil, Nat.zero_mul, Nat.reduceEqDiff, Nat.reduceAdd, Nat.reduceLT, Nat.reduceLeDiff, Nat.reduceMul, ↓reduceIte, reduceCtorEq]
  refine ⟨fun h1 => ?_, fun h1 => ?_⟩
  · refine Fin.pick [] (.b (decide (12 < x.P))) _ ⟨?_, rfl⟩
    congr 1; symm; apply e
    unfold Srv.ok
    rw [decide_eq_true_iff]
    omega
  · refine Fin.pick [] (.b true) _ ⟨?_, rfl⟩
    congr 1; symm; apply e
    unfold Srv.ok
    simp only [true_iff]
    exact fun g => h1 g.1
section
variable {f : Nat} {first caps : List (Nat × Nat)} {σ : List AB} {v : AV} {L : List Srv} {K : AV → List AB → Prop}
theorem slices_IndexFunc_impl_Server_ (hs : L.length ≤ 1099511627776) (h : Rd encSrv σ v L) (p : Srv → Bool) (hp : ∀ t ∈ L, ∀ K : AV → List AB → Prop, K (.b (p t)) σ → CallWp Try.prog f (pAV first ++ [.agg (encSrv.f t)] ++ pAV caps) σ K)
    (hk : K (.i .i64 (idxF p L)) σ) : CallWp Try.prog n_slices_IndexFunc_impl_Server [v, .fn f first caps] σ K := by
  refine call_slices_IndexFunc_impl_Server (by simp) ?_
  rcases h with ⟨n, o, cap, cs, rfl, hn, hc, hle, hw⟩ | ⟨rfl, rfl, h0⟩
  · simp only [c_slices_IndexFunc_impl_Server, go_sem, Int.reduceToNat, List.take_nil, Nat.zero_mul, Nat.reduceEqDiff, Nat.reduceAdd, Nat.reduceLT, Nat.reduceLeDiff, Nat.reduceMul, ↓reduceIte, reduceCtorEq]
    refine loop_count L.length (fun k => ⟨[(0, .sl n o L.length cap), (1, .fn f first caps), (7, .i .i64 L.length), (8, .i .i64 k)], σ⟩) (fun k => ∀ x ∈ L.take k, p x = false) (by simp) (Wk.keep (by simp [look_cons])) fun k hkl hJ => ?_
    simp only [l0_slices_IndexFunc_impl_Server, go_sem, Int.reduceToNat, List.take_nil, Nat.zero_mul, Nat.reduceEqDiff, Nat.reduceAdd, Nat.reduceLT, Nat.reduceLeDiff, Nat.reduceMul, ↓reduceIte, reduceCtorEq]
    refine ⟨fun h => ⟨by omega, ?_⟩, fun h => ?_⟩
    · obtain ⟨h1, h2⟩ := win_at hle hw k h
      simp only [encSrv] at h1 h2
      rw [onC_of hc]
      refine ⟨h1, ?_⟩
      rw [h2]
      refine hp _ (List.getElem_mem _) _ ?_
      simp only [go_sem, Int.reduceToNat, List.take_nil, Nat.zero_mul, Nat.reduceEqDiff, Nat.reduceAdd, Nat.reduceLT, Nat.reduceLeDiff, Nat.reduceMul, ↓reduceIte, reduceCtorEq]
      refine bc_of (fun h3 => Fin.plain ?_) fun h3 => ⟨by omega, ⟨h, (all_take_succ h).2 ⟨hJ, h3⟩⟩, Wk.keep (by simp [look_cons])⟩
      rw [← idxF_found h hJ h3]; exact hk
    · have e : k = L.length := by omega
      subst e
      rw [List.take_length] at hJ
      refine Fin.plain ?_
      rw [← idxF_none hJ]; exact hk
  · simp only [c_slices_IndexFunc_impl_Server, go_sem, Int.reduceToNat, List.take_nil, Nat.zero_mul, Nat.reduceEqDiff, Nat.reduceAdd, Nat.reduceLT, Nat.reduceLeDiff, Nat.reduceMul, ↓reduceIte, reduceCtorEq]
    refine loop_count 0 (fun k => ⟨[(0, .sn), (1, .fn f first caps), (7, .i .i64 0), (8, .i .i64 k)], σ⟩) (fun k => k = 0) rfl (Wk.keep (by simp [look_cons])) fun k hkl hJ => ?_
    subst hJ
    simp only [l0_slices_IndexFunc_impl_Server, go_sem, Int.reduceToNat, List.take_nil, Nat.zero_mul, Nat.reduceEqDiff, Nat.reduceAdd, Nat.reduceLT, Nat.reduceLeDiff, Nat.reduceMul, ↓reduceIte, reduceCtorEq]
    refine ⟨fun h => ?_, fun h => Fin.plain ?_⟩
    · exact absurd h (by simp)
    · rw [← idxF_none (p := p) (L := []) (by simp)]; exact hk
theorem slices_ContainsFunc_impl_Server_ (hs : L.length ≤ 1099511627776) (h : Rd encSrv σ v L) (p : Srv → Bool) (hp : ∀ t ∈ L, ∀ K : AV → List AB → Prop, K (.b (p t)) σ → CallWp Try.prog f (pAV first ++ [.agg (encSrv.f t)] ++ pAV caps) σ K)
    (hk : K (.b (decide (∃ x ∈ L, p x = true))) σ) : CallWp Try.prog n_slices_ContainsFunc_impl_Server [v, .fn f first caps] σ K := by
  refine call_slices_ContainsFunc_impl_Server (by simp) ?_
  simp only [c_slices_ContainsFunc_impl_Server, h.data, go_sem, Int.reduceToNat, List.take_nil, Nat.zero_mul, Nat.reduceEqDiff, Nat.reduceAdd, Nat.reduceLT, Nat.reduceLeDiff, Nat.reduceMul, ↓reduceIte, reduceCtorEq]
  refine slices_IndexFunc_impl_Server_ hs h p hp ?_
  simp only [go_sem, Int.reduceToNat, List.take_nil, Nat.zero_mul, Nat.reduceEqDiff, Nat.reduceAdd, Nat.reduceLT, Nat.reduceLeDiff, Nat.reduceMul, ↓reduceIte, reduceCtorEq]
  refine Fin.plain ?_
  rw [decide_eq_decide.2 idxF_any]; exact hk
end
theorem impl_ServersValid0 (L : List Srv) (hs : L.length ≤ 1099511627776) (c : Nat) : CallWp Try.prog n_impl_ServersValid [.sl 0 0 L.length c] [.ro (encSrv.row L)] (fun x σ => x = .b (decide (srvOk L)) ∧ σ = [.ro (encSrv.row L)]) := by
  refine call_impl_ServersValid (by simp) ?_
  simp only [c_impl_ServersValid, go_sem, Int.reduceToNat, List.take_nil, Nat.zero_mul, Nat.reduceEqDiff, Nat.reduceAdd, Nat.reduceLT, Nat.reduceLeDiff, Nat.reduceMul, ↓reduceIte, reduceCtorEq]
  refine ⟨fun h => ?_, fun h => Fin.same ?_⟩
  · refine slices_ContainsFunc_impl_Server_ hs (Rd.own rfl) (fun t => !decide t.ok) (fun t _ K hk => impl_ServersValid_1_ t hk) ?_
    simp only [go_sem, Int.reduceToNat, List.take_nil, Nat.zero_mul, Nat.reduceEqDiff, Nat.reduceAdd, Nat.reduceLT, Nat.reduceLeDiff, Nat.reduceMul, ↓reduceIte, reduceCtorEq]
    refine Fin.same ?_
    congr 1; apply decide_eq_decide.2
    simp only [srvOk, not_exists, not_and, decide_eq_true_eq, Decidable.not_not]
    exact ⟨fun h1 => ⟨by omega, by simpa using h1⟩, fun h1 => by simpa using h1.2⟩
  · congr 1; symm; apply decide_eq_false
    intro h1; have := h1.1; omega
theorem impl_ServersValid_ {L : List Srv} (hs : L.length ≤ 1099511627776) {v : AV} {σ : List AB} (h : Rd encSrv σ v L) {K : AV → List AB → Prop} (hk : K (.b (decide (srvOk L))) σ) : CallWp Try.prog n_impl_ServersValid [v] σ K :=
  call_rds _ (rds1 h.r) (fun c => [.sl 0 0 L.length (c 0)]) (fun c => impl_ServersValid0 L hs (c 0)) (fun ν c h => ⟨h.1, trivial⟩) (fun _ => rfl) rfl hk
theorem spec_ServersValid0 (L : List Srv) (hs : L.length ≤ 1099511627776) (c : Nat) : CallWp Try.prog n_spec_ServersValid [.sl 0 0 L.length c] [.ro (encSrv.row L)] (fun x σ => x = .b (decide (srvOk L)) ∧ σ = [.ro (encSrv.row L)]) := by
  refine call_spec_ServersValid (by simp) ?_
  simp only [c_spec_ServersValid, go_sem, Int.reduceToNat, List.take_nil, Nat.zero_mul, Nat.reduceEqDiff, Nat.reduceAdd, Nat.reduceLT, Nat.reduceLeDiff, Nat.reduceMul, ↓reduceIte, reduceCtorEq]
  refine loop_count L.length (fun k => ⟨[(0, .sl 0 0 L.length c), (3, .i .i64 k)], [.ro (encSrv.row L)]⟩) (fun k => ∀ x ∈ L.take k, x.ok) (by simp) (Wk.pick [0]) fun k hk hJ => ?_
  simp only [l0_spec_ServersValid, go_sem, Int.reduceToNat, List.take_nil, Nat.zero_mul, Nat.reduceEqDiff, Nat.reduceAdd, Nat.reduceLT, Nat.reduceLeDiff, Nat.reduceMul, ↓reduceIte, reduceCtorEq]
  refine ⟨fun h => ?_, fun h => ?_⟩
  · have no : ¬ L[k].ok → Fin 1 [.ro (encSrv.row L)] (.b false) (fun x σ => x = .b (decide (srvOk L)) ∧ σ = [.ro (encSrv.row L)]) := fun hn => Fin.same (by rw [decide_eq_false fun hs => hn (hs.2 _ (List.getElem_mem h))])
    have nxt : L[k].ok → ∀ x ∈ L.take (k + 1), x.ok := fun hy => (all_take_succ h).2 ⟨hJ, hy⟩
    unfold Srv.ok at no nxt
    simp only [rdSv0 h, rdSv1 h, lenSv, not_true_eq_false, not_false_eq_true, decide_true, decide_false, Bool.not_true, Bool.not_false, false_implies, true_implies, and_true, true_and, Bool.false_eq_true, Bool.true_eq_false, implies_true, Bool.not_not, Classical.not_not, go_sem, Int.reduceToNat, List.take_nil, Nat.zero_mul, Nat.reduceEqDiff, Nat.reduceAdd, Nat.reduceLT, Nat.reduceLeDiff, Nat.reduceMul, ↓reduceIte, reduceCtorEq]
    refine ⟨h, by omega, h, by omega, onCall.by (spec_l1In_ _ _ _ ⟨rfl, rfl⟩) ?_⟩
    simp only [rdSv0 h, rdSv1 h, lenSv, not_true_eq_false, not_false_eq_true, decide_true, decide_false, Bool.not_true, Bool.not_false, false_implies, true_implies, and_true, true_and, Bool.false_eq_true, Bool.true_eq_false, implies_true, Bool.not_not, Classical.not_not, go_sem, Int.reduceToNat, List.take_nil, Nat.zero_mul, Nat.reduceEqDiff, Nat.reduceAdd, Nat.reduceLT, Nat.reduceLeDiff, Nat.reduceMul, ↓reduceIte, reduceCtorEq]
    refine ⟨fun h1 => ⟨h, by omega, onCall.by (spec_l1In_ _ _ _ ⟨rfl, rfl⟩) ?_⟩, fun h1 => no fun hh => h1 hh.1⟩
    simp only [not_true_eq_false, not_false_eq_true, decide_true, decide_false, Bool.not_true, Bool.not_false, false_implies, true_implies, and_true, true_and, Bool.false_eq_true, Bool.true_eq_false, implies_true, Bool.not_not, Classical.not_not, go_sem, Int.reduceToNat, List.take_nil, Nat.zero_mul, Nat.reduceEqDiff, Nat.reduceAdd, Nat.reduceLT, Nat.reduceLeDiff, Nat.reduceMul, ↓reduceIte, reduceCtorEq]
    exact ⟨fun h2 => no fun hh => h2 ⟨by omega, hh.2⟩, fun h2 => ⟨by omega, ⟨h, nxt ⟨h1, h2.2⟩⟩, Wk.pick [0]⟩⟩
  · have e : k = L.length := by omega
    subst e
    rw [List.take_length] at hJ
    refine Fin.same ?_
    congr 1; apply decide_eq_decide.2
    exact ⟨fun h => ⟨by omega, hJ⟩, fun h => by have := h.1; omega⟩
theorem spec_ServersValid_ {L : List Srv} (hs : L.length ≤ 1099511627776) {v : AV} {σ : List AB} (h : Rd encSrv σ v L) {K : AV → List AB → Prop} (hk : K (.b (decide (srvOk L))) σ) : CallWp Try.prog n_spec_ServersValid [v] σ K :=
  call_rds _ (rds1 h.r) (fun c => [.sl 0 0 L.length (c 0)]) (fun c => spec_ServersValid0 L hs (c 0)) (fun ν c h => ⟨h.1, trivial⟩) (fun _ => rfl) rfl hk
def RdA (σ : List AB) (v : AV) (AA : List (List Arr)) : Prop :=
  (∃ n o cap cs, v = .sl n o AA.length cap ∧ cellsOf σ n = some cs ∧ o + AA.length ≤ cs.length ∧ ∀ k (h : k < AA.length), Rd encArr σ (rd cs (o + k)) AA[k]) ∨ (v = .sn ∧ AA = [] ∧ 0 < σ.length)
theorem RdA.app {σ τ : List AB} {v : AV} {AA : List (List Arr)} (h : RdA σ v AA) : RdA (σ ++ τ) v AA := by
  rcases h with ⟨n, o, cap, cs, h1, h2, h3, h4⟩ | ⟨h1, h2, h3⟩
  · exact .inl ⟨n, o, cap, cs, h1, cells_old h2 τ, h3, fun k hk => (h4 k hk).app⟩
  · exact .inr ⟨h1, h2, by rw [List.length_append]; omega⟩
theorem RdA.data {σ : List AB} {v : AV} {AA : List (List Arr)} (h : RdA σ v AA) : v.data = true := by
  rcases h with ⟨n, o, cap, cs, rfl, _⟩ | ⟨rfl, _⟩ <;> rfl
section
variable {f : Nat} {first caps : List (Nat × Nat)} {σ : List AB} {v : AV} {AA : List (List Arr)} {K : AV → List AB → Prop}
theorem slices_IndexFunc_AA_ (hs : AA.length ≤ 1099511627776) (h : RdA σ v AA) (p : List Arr → Bool) (hp : ∀ A ∈ AA, ∀ u, Rd encArr σ u A → ∀ K : AV → List AB → Prop, K (.b (p A)) σ → CallWp Try.prog f (pAV first ++ [u] ++ pAV caps) σ K)
    (hk : K (.i .i64 (idxF p AA)) σ) : CallWp Try.prog n_slices_IndexFunc_impl_Arrival_impl_Arrival [v, .fn f first caps] σ K := by
  refine call_slices_IndexFunc_impl_Arrival_impl_Arrival (by simp) ?_
  rcases h with ⟨n, o, cap, cs, rfl, hc, hle, hw⟩ | ⟨rfl, rfl, h0⟩
  · simp only [c_slices_IndexFunc_impl_Arrival_impl_Arrival, go_sem, Int.reduceToNat, List.take_nil, Nat.zero_mul, Nat.reduceEqDiff, Nat.reduceAdd, Nat.reduceLT, Nat.reduceLeDiff, Nat.reduceMul, ↓reduceIte, reduceCtorEq]
    refine loop_count AA.length (fun k => ⟨[(0, .sl n o AA.length cap), (1, .fn f first caps), (7, .i .i64 AA.length), (8, .i .i64 k)], σ⟩) (fun k => ∀ x ∈ AA.take k, p x = false) (by simp) (Wk.keep (by simp [look_cons])) fun k hkl hJ => ?_
    simp only [l0_slices_IndexFunc_impl_Arrival_impl_Arrival, go_sem, Int.reduceToNat, List.take_nil, Nat.zero_mul, Nat.reduceEqDiff, Nat.reduceAdd, Nat.reduceLT, Nat.reduceLeDiff, Nat.reduceMul, ↓reduceIte, reduceCtorEq]
    refine ⟨fun h => ⟨by omega, ?_⟩, fun h => ?_⟩
    · rw [onC_of hc]
      have hr := hw k h
      refine ⟨by omega, hr.data, ?_⟩
      refine hp _ (List.getElem_mem h) _ hr _ ?_
      simp only [go_sem, Int.reduceToNat, List.take_nil, Nat.zero_mul, Nat.reduceEqDiff, Nat.reduceAdd, Nat.reduceLT, Nat.reduceLeDiff, Nat.reduceMul, ↓reduceIte, reduceCtorEq]
      refine bc_of (fun h3 => Fin.plain ?_) fun h3 => ⟨by omega, ⟨h, (all_take_succ h).2 ⟨hJ, h3⟩⟩, Wk.keep (by simp [look_cons])⟩
      rw [← idxF_found h hJ h3]; exact hk
    · have e : k = AA.length := by omega
      subst e
      rw [List.take_length] at hJ
      refine Fin.plain ?_
      rw [← idxF_none hJ]; exact hk
  · simp only [c_slices_IndexFunc_impl_Arrival_impl_Arrival, go_sem, Int.reduceToNat, List.take_nil, Nat.zero_mul, Nat.reduceEqDiff, Nat.reduceAdd, Nat.reduceLT, Nat.reduceLeDiff, Nat.reduceMul, ↓reduceIte, reduceCtorEq]
    refine loop_count 0 (fun k => ⟨[(0, .sn), (1, .fn f first caps), (7, .i .i64 0), (8, .i .i64 k)], σ⟩) (fun k => k = 0) rfl (Wk.keep (by simp [look_cons])) fun k hkl hJ => ?_
    subst hJ
    simp only [l0_slices_IndexFunc_impl_Arrival_impl_Arrival, go_sem, Int.reduceToNat, List.take_nil, Nat.zero_mul, Nat.reduceEqDiff, Nat.reduceAdd, Nat.reduceLT, Nat.reduceLeDiff, Nat.reduceMul, ↓reduceIte, reduceCtorEq]
    refine ⟨fun h => ?_, fun h => Fin.plain ?_⟩
    · exact absurd h (by simp)
    · rw [← idxF_none (p := p) (L := []) (by simp)]; exact hk
theorem slices_ContainsFunc_AA_ (hs : AA.length ≤ 1099511627776) (h : RdA σ v AA) (p : List Arr → Bool) (hp : ∀ A ∈ AA, ∀ u, Rd encArr σ u A → ∀ K : AV → List AB → Prop, K (.b (p A)) σ → CallWp Try.prog f (pAV first ++ [u] ++ pAV caps) σ K)
    (hk : K (.b (decide (∃ x ∈ AA, p x = true))) σ) : CallWp Try.prog n_slices_ContainsFunc_impl_Arrival_impl_Arrival [v, .fn f first caps] σ K := by
  refine call_slices_ContainsFunc_impl_Arrival_impl_Arrival (by simp) ?_
  simp only [c_slices_ContainsFunc_impl_Arrival_impl_Arrival, h.data, go_sem, Int.reduceToNat, List.take_nil, Nat.zero_mul, Nat.reduceEqDiff, Nat.reduceAdd, Nat.reduceLT, Nat.reduceLeDiff, Nat.reduceMul, ↓reduceIte, reduceCtorEq]
  refine slices_IndexFunc_AA_ hs h p hp ?_
  simp only [go_sem, Int.reduceToNat, List.take_nil, Nat.zero_mul, Nat.reduceEqDiff, Nat.reduceAdd, Nat.reduceLT, Nat.reduceLeDiff, Nat.reduceMul, ↓reduceIte, reduceCtorEq]
  refine Fin.plain ?_
  rw [decide_eq_decide.2 idxF_any]; exact hk
end
theorem impl_RunServers_1_ {A : List Arr} (hs : A.length ≤ 1099511627776) {v : AV} {σ : List AB} (h : Rd encArr σ v A) {K : AV → List AB → Prop} (hk : K (.b (!decide (arrLegal A))) σ) : CallWp Try.prog n_impl_RunServers_1 [v] σ K := by
  refine call_rds _ (rds1 h.r) (fun c => [.sl 0 0 A.length (c 0)]) (r := .b (!decide (arrLegal A))) (fun c => ?_) (fun ν c h => ⟨h.1, trivial⟩) (fun _ => rfl) rfl hk
  refine call_impl_RunServers_1 (by simp) ?_
  simp only [c_impl_RunServers_1, not_true_eq_false, not_false_eq_true, decide_true, decide_false, Bool.not_true, Bool.not_false, false_implies, true_implies, and_true, true_and, Bool.false_eq_true, Bool.true_eq_false, implies_true, Bool.not_not, Classical.not_not, go_sem, Int.reduceToNat, List.take_nil, Nat.zero_mul, Nat.reduceEqDiff, Nat.reduceAdd, Nat.reduceLT, Nat.reduceLeDiff, Nat.reduceMul, ↓reduceIte, reduceCtorEq]
  refine impl_ArrivalsLegal_ hs (Rd.own rfl) ?_
  simp only [not_true_eq_false, not_false_eq_true, decide_true, decide_false, Bool.not_true, Bool.not_false, false_implies, true_implies, and_true, true_and, Bool.false_eq_true, Bool.true_eq_false, implies_true, Bool.not_not, Classical.not_not, go_sem, Int.reduceToNat, List.take_nil, Nat.zero_mul, Nat.reduceEqDiff, Nat.reduceAdd, Nat.reduceLT, Nat.reduceLeDiff, Nat.reduceMul, ↓reduceIte, reduceCtorEq]
  exact Fin.plain ⟨rfl, rfl⟩
end Go.Proofs.Ytnlciginmeebhaa
/- Contracts: a server at work: requests come, wait, are served. -/
namespace Go.Proofs.Ytnlciginmeebhaa
open Go.Abs Go.Ds
set_option linter.unusedSimpArgs false
set_option linter.unusedVariables false
set_option maxRecDepth 20000
set_option maxHeartbeats 1000000
def cellsSv (x : Srv) (req : AV) (s : Sv) : List AV := [.i .i64 x.B, .i .i64 x.P, .i .i64 s.left, .i .i64 s.dl, req, .i .i64 s.came, .i .i64 s.at_, .i .i64 s.done]
abbrev blkSv (x : Srv) (req : AV) (s : Sv) : AB := .rw ty_impl_server (cellsSv x req s) 8
theorem admit_step {x : Srv} {A : List Arr} {now : Int} {s : Sv} (h : s.came < A.length) (ht : (gA A s.came).t = now) : admS x A now (comes x now s) = admS x A now s := by
  unfold admS
  rw [show A.length - s.came = (A.length - (s.came + 1)) + 1 by omega]
  rw [show (comes x now s).came = s.came + 1 by unfold comes; split <;> rfl]
  rw [show admitN x A now (A.length - (s.came + 1) + 1) s = if s.came < A.length ∧ (gA A s.came).t = now then admitN x A now (A.length - (s.came + 1)) (comes x now s) else s from rfl, if_pos ⟨h, ht⟩]
theorem admit_stop {x : Srv} {A : List Arr} {now : Int} {s : Sv} (h : ¬ (s.came < A.length ∧ (gA A s.came).t = now)) : admS x A now s = s := by
  unfold admS
  cases hn : A.length - s.came with
  | zero => rfl
  | succ n => exact if_neg h
/-- What is asked of a server's state for its arithmetic. -/
structure SvB (x : Srv) (A : List Arr) (s : Sv) : Prop where
  ok : SvOk x A s
  dl : s.dl ≤ 100000
section
variable {σ τ : List AB} {k : Nat} {x : Srv} {req : AV} {A : List Arr} {s : Sv} {now : Int} {K : AV → List AB → Prop}
theorem get_set {τ : List AB} {k : Nat} {B : AB} (h : k < τ.length) : (τ.set k B)[k]? = some B := List.getElem?_set_self h
theorem impl_server_pending_ (hk : τ[k]? = some (blkSv x req s)) (hK : K (.b (pend s)) (σ ++ τ)) : CallWp Try.prog n_impl_server_pending [.p (σ.length + k) 0] (σ ++ τ) K := by
  refine callC_impl_server_pending (by simp) fun hC _ => ?_
  simp only [c_impl_server_pending, at_new, hk, cellsSv, not_true_eq_false, not_false_eq_true, decide_true, decide_false, Bool.not_true, Bool.not_false, false_implies, true_implies, and_true, true_and, Bool.false_eq_true, Bool.true_eq_false, implies_true, Bool.not_not, Classical.not_not, go_sem, Int.reduceToNat, List.take_nil, Nat.zero_mul, Nat.reduceEqDiff, Nat.reduceAdd, Nat.reduceLT, Nat.reduceLeDiff, Nat.reduceMul, ↓reduceIte, reduceCtorEq]
  refine Fin.plain ?_
  exact hK
theorem impl_server_admit_ (hR : Rd encArr σ req A) (hk : τ[k]? = some (blkSv x req s)) (hx : x.ok) (hs : SvB x A s) (hn : 0 ≤ now ∧ now ≤ 1000) (hl : A.length ≤ 1000) (hK : K (.tup []) (σ ++ τ.set k (blkSv x req (admS x A now s)))) : CallWp Try.prog n_impl_server_admit [.p (σ.length + k) 0, .i .i64 now] (σ ++ τ) K := by
  have hkl := (List.getElem?_eq_some_iff.1 hk).1
  refine callC_impl_server_admit (by simp) fun hC _ => ?_
  simp only [c_impl_server_admit, not_true_eq_false, not_false_eq_true, decide_true, decide_false, Bool.not_true, Bool.not_false, false_implies, true_implies, and_true, true_and, Bool.false_eq_true, Bool.true_eq_false, implies_true, Bool.not_not, Classical.not_not, go_sem, Int.reduceToNat, List.take_nil, Nat.zero_mul, Nat.reduceEqDiff, Nat.reduceAdd, Nat.reduceLT, Nat.reduceLeDiff, Nat.reduceMul, ↓reduceIte, reduceCtorEq]
  have hx2 := hx
  unfold Srv.ok at hx2
  refine loop_intro (fun s' : Sv => ⟨[(0, .p (σ.length + k) 0), (1, .i .i64 now)], σ ++ τ.set k (blkSv x req s')⟩) (fun s' => SvB x A s' ∧ admS x A now s' = admS x A now s) (fun s' => A.length - s'.came) s ⟨hs, rfl⟩ ?_ ?_
  · have e : τ.set k (blkSv x req s) = τ := by
      apply List.ext_getElem?
      intro i
      by_cases e : k = i
      · subst e; rw [List.getElem?_set_self hkl, hk]
      · rw [List.getElem?_set_ne e]
    rw [e]
    exact Wk.keep (by simp [look_cons])
  · rintro s' ⟨hs', he⟩
    obtain ⟨⟨h1, h2, h3, h4, h5, h6, h7⟩, h8⟩ := hs'
    have hg := get_set (B := blkSv x req s') hkl
    have hlt : (τ.set k (blkSv x req s')).length = τ.length := List.length_set ..
    have hreset := fun e : admS x A now s' = s' => e ▸ he
    rcases hR with ⟨n, o, cap, cs, rfl, hn2, hcs, hle, hw⟩ | ⟨rfl, rfl, h0⟩
    · by_cases hc : s'.came < A.length
      · obtain ⟨g1, g2⟩ := rd_at hle hw s'.came hc 0 (by decide)
        have ga : gA A s'.came = A[s'.came] := gA_mem hc
        simp only [encArr, Nat.add_zero, rd_zero] at g1 g2
        simp only [l0_impl_server_admit, at_new, hg, cellsSv, onC_old hcs, g1, g2, hc, not_true_eq_false, not_false_eq_true, decide_true, decide_false, Bool.not_true, Bool.not_false, false_implies, true_implies, and_true, true_and, Bool.false_eq_true, Bool.true_eq_false, implies_true, Bool.not_not, Classical.not_not, go_sem, Int.reduceToNat, List.take_nil, Nat.zero_mul, Nat.reduceEqDiff, Nat.reduceAdd, Nat.reduceLT, Nat.reduceLeDiff, Nat.reduceMul, ↓reduceIte, reduceCtorEq]
        refine ⟨fun ht => ?_, fun ht => ?_⟩
        · have hst := admit_step (x := x) (now := now) hc (by rw [ga]; exact ht)
          refine onCall.by (impl_server_pending_ (x := x) (s := s') (req := .sl n o A.length cap) hg ⟨rfl, rfl⟩) ?_
          have hset : ∀ B C : AB, (τ.set k B).set k C = τ.set k C := fun B C => List.set_set ..
          have hgC : ∀ B : AB, (τ.set k B)[k]? = some B := fun B => get_set hkl
          have b1 : 0 ≤ s'.left * x.P ∧ s'.left * x.P ≤ 12 * 12 := ⟨Int.mul_nonneg (by omega) (by omega), Int.mul_le_mul (by omega) (by omega) (by omega) (by omega)⟩
          have b2 : -1000 * 12 ≤ (s'.dl - now) * x.B ∧ (s'.dl - now) * x.B ≤ 1212000 := by
            have e1 : (s'.dl - now + 1000) * x.B ≤ 101000 * 12 := Int.mul_le_mul (by omega) (by omega) (by omega) (by omega)
            have e2 : 0 ≤ (s'.dl - now + 1000) * x.B := Int.mul_nonneg (by omega) (by omega)
            rw [Int.add_mul] at e1 e2
            omega
          cases hp : pend s'
          · have hp' := of_decide_eq_false hp
            simp only [at_new, set_new, hg, hgC, hset, cellsSv, not_true_eq_false, not_false_eq_true, decide_true, decide_false, Bool.not_true, Bool.not_false, false_implies, true_implies, and_true, true_and, Bool.false_eq_true, Bool.true_eq_false, implies_true, Bool.not_not, Classical.not_not, go_sem, Int.reduceToNat, List.take_nil, Nat.zero_mul, Nat.reduceEqDiff, Nat.reduceAdd, Nat.reduceLT, Nat.reduceLeDiff, Nat.reduceMul, ↓reduceIte, reduceCtorEq]
            have bcame : (0 : Int) ≤ s'.came ∧ (s'.came : Int) ≤ 1000 := by omega
            refine ⟨by omega, by omega, by omega, fun hr => ⟨by omega, by omega, comes x now s', ⟨⟨⟨SvOk.comes ⟨h1, h2, h3, h4, h5, h6, h7⟩ hx hn.1 hc, ?_⟩, hst.trans he⟩, ?_⟩, ?_⟩, fun hr => ⟨by omega, comes x now s', ⟨⟨⟨SvOk.comes ⟨h1, h2, h3, h4, h5, h6, h7⟩ hx hn.1 hc, ?_⟩, hst.trans he⟩, ?_⟩, ?_⟩⟩
            · unfold comes; rw [if_pos ⟨by omega, hr⟩]; simp only; omega
            · unfold comes; rw [if_pos ⟨by omega, hr⟩]; simp only; omega
            · unfold comes; rw [if_pos ⟨by omega, hr⟩]
              simp only [blkSv, cellsSv]
              exact Wk.keep (by simp [look_cons])
            · unfold comes; rw [if_neg (fun g => hr g.2)]; exact h8
            · unfold comes; rw [if_neg (fun g => hr g.2)]; simp only; omega
            · unfold comes; rw [if_neg (fun g => hr g.2)]
              simp only [blkSv, cellsSv]
              exact Wk.keep (by simp [look_cons])
          · have hp' := of_decide_eq_true hp
            have e : comes x now s' = ⟨s'.left, s'.dl, s'.came + 1, s'.at_, s'.done⟩ := by
              unfold comes; rw [if_neg (fun g => by have := g.1; omega)]
            simp only [at_new, set_new, hg, hgC, hset, cellsSv, not_true_eq_false, not_false_eq_true, decide_true, decide_false, Bool.not_true, Bool.not_false, false_implies, true_implies, and_true, true_and, Bool.false_eq_true, Bool.true_eq_false, implies_true, Bool.not_not, Classical.not_not, go_sem, Int.reduceToNat, List.take_nil, Nat.zero_mul, Nat.reduceEqDiff, Nat.reduceAdd, Nat.reduceLT, Nat.reduceLeDiff, Nat.reduceMul, ↓reduceIte, reduceCtorEq]
            refine ⟨by omega, comes x now s', ⟨⟨⟨SvOk.comes ⟨h1, h2, h3, h4, h5, h6, h7⟩ hx hn.1 hc, ?_⟩, hst.trans he⟩, ?_⟩, ?_⟩
            · rw [e]; exact h8
            · rw [e]; simp only; omega
            · rw [e]
              simp only [blkSv, cellsSv]
              exact Wk.keep (by simp [look_cons])
        · rw [admit_stop (fun g => ht (by rw [← ga]; exact g.2))] at he
          rw [he]
          exact Fin.plain hK
      · rw [admit_stop (fun g => hc g.1)] at he
        simp only [l0_impl_server_admit, at_new, hg, cellsSv, hc, not_true_eq_false, not_false_eq_true, decide_true, decide_false, Bool.not_true, Bool.not_false, false_implies, true_implies, and_true, true_and, Bool.false_eq_true, Bool.true_eq_false, implies_true, Bool.not_not, Classical.not_not, go_sem, Int.reduceToNat, List.take_nil, Nat.zero_mul, Nat.reduceEqDiff, Nat.reduceAdd, Nat.reduceLT, Nat.reduceLeDiff, Nat.reduceMul, ↓reduceIte, reduceCtorEq]
        rw [he]
        exact Fin.plain hK
    · rw [admit_stop (fun g => absurd g.1 (Nat.not_lt_zero _))] at he
      simp only [l0_impl_server_admit, at_new, hg, cellsSv, not_true_eq_false, not_false_eq_true, decide_true, decide_false, Bool.not_true, Bool.not_false, false_implies, true_implies, and_true, true_and, Bool.false_eq_true, Bool.true_eq_false, implies_true, Bool.not_not, Classical.not_not, go_sem, Int.reduceToNat, List.take_nil, Nat.zero_mul, Nat.reduceEqDiff, Nat.reduceAdd, Nat.reduceLT, Nat.reduceLeDiff, Nat.reduceMul, ↓reduceIte, reduceCtorEq]
      exact ⟨fun h => absurd h (by omega), fun _ => he ▸ Fin.plain hK⟩
theorem impl_server_serve_ (hR : Rd encArr σ req A) (hk : τ[k]? = some (blkSv x req s)) (hx : x.ok) (hs : SvB x A s) (hp : pend s = true) (hd : s.done ≤ 1000) (hl : A.length ≤ 1000) (hK : K (.b (ends A s)) (σ ++ τ.set k (blkSv x req (Go.Ds.serve x A s)))) : CallWp Try.prog n_impl_server_serve [.p (σ.length + k) 0] (σ ++ τ) K := by
  have hkl := (List.getElem?_eq_some_iff.1 hk).1
  have hx2 := hx
  unfold Srv.ok at hx2
  have hp := of_decide_eq_true hp
  obtain ⟨⟨h1, h2, h3, h4, h5, h6, h7⟩, h8⟩ := hs
  have hset : ∀ B C : AB, (τ.set k B).set k C = τ.set k C := fun B C => List.set_set ..
  have hgC : ∀ B : AB, (τ.set k B)[k]? = some B := fun B => get_set hkl
  refine callC_impl_server_serve (by simp) fun hC _ => ?_
  simp only [c_impl_server_serve, at_new, set_new, hk, hgC, hset, cellsSv, not_true_eq_false, not_false_eq_true, decide_true, decide_false, Bool.not_true, Bool.not_false, false_implies, true_implies, and_true, true_and, Bool.false_eq_true, Bool.true_eq_false, implies_true, Bool.not_not, Classical.not_not, go_sem, Int.reduceToNat, List.take_nil, Nat.zero_mul, Nat.reduceEqDiff, Nat.reduceAdd, Nat.reduceLT, Nat.reduceLeDiff, Nat.reduceMul, ↓reduceIte, reduceCtorEq]
  refine ⟨by omega, ?_⟩
  refine seq_join (fun _ : Unit => ⟨[(0, .p (σ.length + k) 0)], σ ++ τ.set k (.rw ty_impl_server [.i .i64 x.B, .i .i64 x.P, .i .i64 (Go.Ds.serve x A s).left, .i .i64 (Go.Ds.serve x A s).dl, req, .i .i64 s.came, .i .i64 s.at_, .i .i64 s.done] 8)⟩) (fun _ => True) ?_ fun _ _ => ?_
  · have e1 : (Go.Ds.serve x A s).left = if s.left - 1 = 0 then x.B else s.left - 1 := rfl
    have e2 : (Go.Ds.serve x A s).dl = if s.left - 1 = 0 then s.dl + x.P else s.dl := rfl
    rw [e1, e2]
    simp only [at_new, set_new, hk, hgC, hset, not_true_eq_false, not_false_eq_true, decide_true, decide_false, Bool.not_true, Bool.not_false, false_implies, true_implies, and_true, true_and, Bool.false_eq_true, Bool.true_eq_false, implies_true, Bool.not_not, Classical.not_not, go_sem, Int.reduceToNat, List.take_nil, Nat.zero_mul, Nat.reduceEqDiff, Nat.reduceAdd, Nat.reduceLT, Nat.reduceLeDiff, Nat.reduceMul, ↓reduceIte, reduceCtorEq]
    refine ⟨fun h0 => ?_, fun h0 => ?_⟩
    · rw [if_pos h0, if_pos h0]
      exact ⟨by omega, kJ_intro () trivial (Wk.keep (by simp [look_cons]))⟩
    · rw [if_neg h0, if_neg h0]
      exact kJ_intro () trivial (Wk.keep (by simp [look_cons]))
  · generalize hl' : (Go.Ds.serve x A s).left = l' at *
    generalize hd' : (Go.Ds.serve x A s).dl = d' at *
    have hat : s.at_ < A.length := by omega
    rcases hR with ⟨n, o, cap, cs, rfl, hn2, hcs, hle, hw⟩ | ⟨rfl, rfl, h0⟩
    · obtain ⟨g1, g2⟩ := rd_at hle hw s.at_ hat 1 (by decide)
      have ga : gA A s.at_ = A[s.at_] := gA_mem hat
      simp only [encArr, rd_zero, rd_succ] at g1 g2
      simp only [at_new, set_new, hk, hgC, hset, onC_old hcs, g1, g2, hat, Int.toNat_natCast, not_true_eq_false, not_false_eq_true, decide_true, decide_false, Bool.not_true, Bool.not_false, false_implies, true_implies, and_true, true_and, Bool.false_eq_true, Bool.true_eq_false, implies_true, Bool.not_not, Classical.not_not, go_sem, Int.reduceToNat, List.take_nil, Nat.zero_mul, Nat.reduceEqDiff, Nat.reduceAdd, Nat.reduceLT, Nat.reduceLeDiff, Nat.reduceMul, ↓reduceIte, reduceCtorEq]
      have hes : ends A s = decide (¬ s.done + 1 < A[s.at_].e) := by
        unfold ends; rw [ga]; exact decide_eq_decide.2 (by omega)
      refine ⟨by omega, fun hlt => ?_, fun hge => ⟨by omega, ?_⟩⟩
      · have he : ends A s = false := by rw [hes]; exact decide_eq_false (by omega)
        have e3 : Go.Ds.serve x A s = ⟨l', d', s.came, s.at_, s.done + 1⟩ := by
          rw [← hl', ← hd']; unfold Go.Ds.serve; rw [he]; rfl
        rw [he, e3] at hK
        exact Fin.plain hK
      · have he : ends A s = true := by rw [hes]; exact decide_eq_true (by omega)
        have e3 : Go.Ds.serve x A s = ⟨l', d', s.came, s.at_ + 1, 0⟩ := by
          rw [← hl', ← hd']; unfold Go.Ds.serve; rw [he]; rfl
        rw [he, e3] at hK
        exact Fin.plain hK
    · exact absurd hat (Nat.not_lt_zero _)
end
end Go.Proofs.Ytnlciginmeebhaa
/- Contracts: servers: the memory of a run, and the choice of a tick. -/
namespace Go.Proofs.Ytnlciginmeebhaa
open Go.Abs Go.Ds
set_option linter.unusedSimpArgs false
set_option linter.unusedVariables false
set_option maxRecDepth 20000
set_option maxHeartbeats 2000000
/-- A server in memory. -/
structure SR where
  x : Srv
  req : AV
  A : List Arr
  w : Sv
  row : List Int
  r : Nat
abbrev rowB (s : SR) : AB := .rw ty_int (encInt.row s.row) s.r
abbrev cpB (s : SR) : AB := .rw ty_impl_Server [.i .i64 s.x.B, .i .i64 s.x.P] 2
abbrev svB (s : SR) : AB := blkSv s.x s.req s.w
def tailF (f : Nat → SR) : Nat → List AB
  | 0 => []
  | n + 1 => tailF f n ++ [cpB (f n), svB (f n), rowB (f n)]
def workC (N n : Nat) : List AV := (List.range n).map fun k => AV.p (N + (8 + 3 * k)) 0
def servC (N : Nat) (f : Nat → SR) (n : Nat) : List AV := (List.range n).map fun k => AV.sl (N + (9 + 3 * k)) 0 (f k).A.length (f k).r
def TT (N j Ln c cc : Nat) (ch : List Int) (f : Nat → SR) (n : Nat) : List AB :=
  .rw ty_sl_impl_Job [.sl j 0 Ln c] 1 :: .rw ty_impl_ServerRun [.sn, .sn, .sn, .sn] 4 :: .rw ty_int (encInt.row ch) cc :: .rw ty_sl_int (servC N f n) n :: .rw ty_impl_ServerRun [.sn, .sn, .sl (N + 2) 0 120 cc, .sl (N + 3) 0 n n] 4 ::
    .rw ty_ptr_impl_server (workC N n) n :: .rw ty_sl_ptr_impl_server [.sl (N + 5) 0 n n] 1 :: tailF f n
theorem tail_len (f : Nat → SR) : ∀ n, (tailF f n).length = 3 * n
  | 0 => rfl
  | n + 1 => by rw [tailF, List.length_append, tail_len f n]; simp; omega
theorem tail_at (f : Nat → SR) {i : Nat} : ∀ {n}, i < n → (tailF f n)[3 * i]? = some (cpB (f i)) ∧ (tailF f n)[1 + 3 * i]? = some (svB (f i)) ∧ (tailF f n)[2 + 3 * i]? = some (rowB (f i))
  | 0, h => absurd h (Nat.not_lt_zero _)
  | n + 1, h => by
    have hl := tail_len f n
    rw [tailF]
    by_cases e : i = n
    · subst e
      refine ⟨?_, ?_, ?_⟩
      · rw [List.getElem?_append_right (by omega), hl, Nat.sub_self]; rfl
      · rw [List.getElem?_append_right (by omega), hl, show 1 + 3 * i - 3 * i = 1 by omega]; rfl
      · rw [List.getElem?_append_right (by omega), hl, show 2 + 3 * i - 3 * i = 2 by omega]; rfl
    · have ih := tail_at f (show i < n by omega)
      refine ⟨?_, ?_, ?_⟩
      · rw [List.getElem?_append_left (by omega)]; exact ih.1
      · rw [List.getElem?_append_left (by omega)]; exact ih.2.1
      · rw [List.getElem?_append_left (by omega)]; exact ih.2.2
theorem tail_congr {f g : Nat → SR} : ∀ {n}, (∀ k, k < n → f k = g k) → tailF f n = tailF g n
  | 0, _ => rfl
  | n + 1, h => by rw [tailF, tailF, tail_congr fun k hk => h k (by omega), h n (by omega)]
def updW (f : Nat → SR) (i : Nat) (w : Sv) : Nat → SR := fun k => if k = i then { f k with w := w } else f k
def updR (f : Nat → SR) (i : Nat) (row : List Int) : Nat → SR := fun k => if k = i then { f k with row := row } else f k
theorem tail_setW (f : Nat → SR) {i : Nat} (w : Sv) : ∀ {n}, i < n → (tailF f n).set (1 + 3 * i) (blkSv (f i).x (f i).req w) = tailF (updW f i w) n
  | 0, h => absurd h (Nat.not_lt_zero _)
  | n + 1, h => by
    have hl := tail_len f n
    rw [tailF, tailF]
    by_cases e : i = n
    · subst e
      rw [List.set_append_right _ _ (by omega), hl, show 1 + 3 * i - 3 * i = 1 by omega]
      congr 1
      · exact tail_congr fun k hk => by unfold updW; rw [if_neg (by omega)]
      · simp [updW]
    · rw [List.set_append_left _ _ (by omega), tail_setW f w (show i < n by omega)]
      congr 1
      unfold updW
      rw [if_neg (fun h => e h.symm)]
theorem tail_setR (f : Nat → SR) {i : Nat} (row : List Int) : ∀ {n}, i < n → (tailF f n).set (2 + 3 * i) (.rw ty_int (encInt.row row) (f i).r) = tailF (updR f i row) n
  | 0, h => absurd h (Nat.not_lt_zero _)
  | n + 1, h => by
    have hl := tail_len f n
    rw [tailF, tailF]
    by_cases e : i = n
    · subst e
      rw [List.set_append_right _ _ (by omega), hl, show 2 + 3 * i - 3 * i = 2 by omega]
      congr 1
      · exact tail_congr fun k hk => by unfold updR; rw [if_neg (by omega)]
      · simp [updR]
    · rw [List.set_append_left _ _ (by omega), tail_setR f row (show i < n by omega)]
      congr 1
      unfold updR
      rw [if_neg (fun h => e h.symm)]
section
variable {N j Ln c cc : Nat} {ch : List Int} {f : Nat → SR} {n i : Nat} {τ : List AB}
theorem TT_len : (TT N j Ln c cc ch f n).length = 7 + 3 * n := by simp [TT, tail_len]; omega
theorem TT_sv (h : i < n) : (TT N j Ln c cc ch f n ++ τ)[8 + 3 * i]? = some (svB (f i)) := by
  rw [List.getElem?_append_left (by rw [TT_len]; omega), show 8 + 3 * i = 1 + 3 * i + 7 by omega]
  exact (tail_at f h).2.1
theorem TT_row (h : i < n) : (TT N j Ln c cc ch f n ++ τ)[9 + 3 * i]? = some (rowB (f i)) := by
  rw [List.getElem?_append_left (by rw [TT_len]; omega), show 9 + 3 * i = 2 + 3 * i + 7 by omega]
  exact (tail_at f h).2.2
theorem servC_same {f g : Nat → SR} (h : ∀ k, k < n → (f k).A = (g k).A ∧ (f k).r = (g k).r) : servC N f n = servC N g n := by
  unfold servC
  apply List.map_congr_left
  intro k hk
  have := h k (List.mem_range.1 hk)
  rw [this.1, this.2]
theorem TT_congr {f g : Nat → SR} (h : ∀ k, k < n → f k = g k) : TT N j Ln c cc ch f n = TT N j Ln c cc ch g n := by
  unfold TT
  rw [tail_congr h, servC_same fun k hk => by rw [h k hk]; exact ⟨rfl, rfl⟩]
theorem TT_setW (h : i < n) (w : Sv) : (TT N j Ln c cc ch f n ++ τ).set (8 + 3 * i) (blkSv (f i).x (f i).req w) = TT N j Ln c cc ch (updW f i w) n ++ τ := by
  rw [List.set_append_left _ _ (by rw [TT_len]; omega), show 8 + 3 * i = 1 + 3 * i + 7 by omega]
  congr 1
  unfold TT
  rw [servC_same (f := updW f i w) (g := f) fun k _ => by unfold updW; split <;> exact ⟨rfl, rfl⟩, ← tail_setW f w h]
  rfl
theorem TT_setR (h : i < n) (row : List Int) : (TT N j Ln c cc ch f n ++ τ).set (9 + 3 * i) (.rw ty_int (encInt.row row) (f i).r) = TT N j Ln c cc ch (updR f i row) n ++ τ := by
  rw [List.set_append_left _ _ (by rw [TT_len]; omega), show 9 + 3 * i = 2 + 3 * i + 7 by omega]
  congr 1
  unfold TT
  rw [servC_same (f := updR f i row) (g := f) fun k _ => by unfold updR; split <;> exact ⟨rfl, rfl⟩, ← tail_setR f row h]
  rfl
theorem TT_setC (ch' : List Int) : (TT N j Ln c cc ch f n ++ τ).set 2 (.rw ty_int (encInt.row ch') cc) = TT N j Ln c cc ch' f n ++ τ := rfl
theorem TT_0 : (TT N j Ln c cc ch f n ++ τ)[0]? = some (.rw ty_sl_impl_Job [.sl j 0 Ln c] 1) := rfl
theorem TT_2 : (TT N j Ln c cc ch f n ++ τ)[2]? = some (.rw ty_int (encInt.row ch) cc) := rfl
theorem TT_3 : (TT N j Ln c cc ch f n ++ τ)[3]? = some (.rw ty_sl_int (servC N f n) n) := rfl
theorem TT_4 : (TT N j Ln c cc ch f n ++ τ)[4]? = some (.rw ty_impl_ServerRun [.sn, .sn, .sl (N + 2) 0 120 cc, .sl (N + 3) 0 n n] 4) := rfl
theorem TT_5 : (TT N j Ln c cc ch f n ++ τ)[5]? = some (.rw ty_ptr_impl_server (workC N n) n) := rfl
theorem TT_6 : (TT N j Ln c cc ch f n ++ τ)[6]? = some (.rw ty_sl_ptr_impl_server [.sl (N + 5) 0 n n] 1) := rfl
theorem workC_len : (workC N n).length = n := by simp [workC]
theorem servC_len : (servC N f n).length = n := by simp [servC]
theorem rd_workC (h : i < n) : rd (workC N n) i = .p (N + (8 + 3 * i)) 0 := by simp [rd, workC, h]
theorem rd_servC (h : i < n) : rd (servC N f n) i = .sl (N + (9 + 3 * i)) 0 (f i).A.length (f i).r := by simp [rd, servC, h]
end
/-- What is asked of a server in memory. -/
structure SrOk (σ : List AB) (s : SR) : Prop where
  rd : Rd encArr σ s.req s.A
  x : s.x.ok
  w : SvOk s.x s.A s.w
  dl : s.w.dl ≤ 90000
  done : s.w.done ≤ 1000
  len : s.A.length ≤ 1000
  row : s.row.length = s.A.length
def fA (f : Nat → SR) (now : Int) (i : Nat) : Nat → SR := fun k => if k < i then { f k with w := admS (f k).x (f k).A now (f k).w } else f k
theorem fA_succ {f : Nat → SR} {now : Int} {i : Nat} : updW (fA f now i) i (admS (f i).x (f i).A now (f i).w) = fA f now (i + 1) := by
  funext k
  unfold updW fA
  by_cases e : k = i
  · subst e; rw [if_pos rfl, if_neg (Nat.lt_irrefl _), if_pos (Nat.lt_succ_self _)]
  · rw [if_neg e]
    by_cases h : k < i
    · rw [if_pos h, if_pos (by omega)]
    · rw [if_neg h, if_neg (by omega)]
theorem fA_zero (f : Nat → SR) (now : Int) : fA f now 0 = f := by funext k; unfold fA; rw [if_neg (Nat.not_lt_zero _)]
theorem admitN_dl {x : Srv} {A : List Arr} {now B : Int} (h2 : now + x.P ≤ B) : ∀ (n : Nat) {s : Sv}, s.dl ≤ B → (admitN x A now n s).dl ≤ B
  | 0, _, h => h
  | n + 1, s, h => by
    unfold admitN
    split
    · refine admitN_dl h2 n ?_
      unfold comes
      split
      · exact h2
      · exact h
    · exact h
def wL (f : Nat → SR) (n : Nat) : List Sv := (List.range n).map fun k => (f k).w
theorem gV_wL {f : Nat → SR} {n k : Nat} (h : k < n) : gV (wL f n) k = (f k).w := by simp [gV, wL, List.getD_eq_getElem?_getD, h]
def fS (f : Nat → SR) (now : Nat) (q : Nat) : Nat → SR := fun k => if k = q then { f k with w := Go.Ds.serve (f k).x (f k).A (f k).w, row := if ends (f k).A (f k).w = true then (f k).row.set (f k).w.at_ (now + 1) else (f k).row } else f k
theorem cells_ne {σ : List AB} {m b : Nat} {a a' : AV} {l l' : List AV} (h : cellsOf σ m = some (a :: l)) (h' : cellsOf σ b = some (a' :: l')) (hne : a ≠ a') : m ≠ b := by
  rintro rfl
  rw [h] at h'
  cases h'; exact hne rfl
theorem cells_setN {σ : List AB} {m b : Nat} {B : AB} (h : m ≠ b) : cellsOf (σ.set b B) m = cellsOf σ m := by
  unfold cellsOf
  rw [List.getElem?_set_ne (fun e => h e.symm)]
theorem int_row_sl {L : List Int} {a b c d : Nat} {l : List AV} (h : encInt.row L = .sl a b c d :: l) : False := by
  cases L with
  | nil => simp [Enc.row, encs] at h
  | cons x r => simp [Enc.row, encs, encInt] at h
theorem impl_RunServers_2_ {σ τ : List AB} {m j c cc n now : Nat} {ch : List Int} {f : Nat → SR} {L : List Job} {done : List Int} {K : AV → List AB → Prop}
    (hj : cellsOf σ j = some (encJob.row L)) (hm : Mach (σ ++ (TT σ.length j L.length c cc ch f n ++ τ)) m L done now) (hl : L.length ≤ 1000) (hnow : now < 120) (hch : ch.length = 120) (hn : n ≤ 1000) (hf : ∀ k, k < n → SrOk σ (f k))
    (hneg : srvGo n L (wL (fA f now n) n) now done < 0 → K (.i .i64 (edfPick L now done)) (σ ++ (TT σ.length j L.length c cc ch (fA f now n) n ++ τ)))
    (hpos : ∀ q : Nat, srvGo n L (wL (fA f now n) n) now done = q → K (.i .i64 (-1)) (σ ++ (TT σ.length j L.length c cc (ch.set now q) (fS (fA f now n) now q) n ++ τ))) :
    CallWp Try.prog n_impl_RunServers_2 [.p m 0, .p (σ.length + 6) 0, .p σ.length 0, .p (σ.length + 4) 0] (σ ++ (TT σ.length j L.length c cc ch f n ++ τ)) K := by
  refine callC_impl_RunServers_2 (by simp) fun hC _ => ?_
  simp only [c_impl_RunServers_2, not_true_eq_false, not_false_eq_true, decide_true, decide_false, Bool.not_true, Bool.not_false, false_implies, true_implies, and_true, true_and, Bool.false_eq_true, Bool.true_eq_false, implies_true, Bool.not_not, Classical.not_not, go_sem, Int.reduceToNat, List.take_nil, Nat.zero_mul, Nat.reduceEqDiff, Nat.reduceAdd, Nat.reduceLT, Nat.reduceLeDiff, Nat.reduceMul, ↓reduceIte, reduceCtorEq]
  refine impl_edf_ hm (by omega) ?_
  simp only [at_new, set_new, TT_0, TT_2, TT_3, TT_4, TT_5, TT_6, not_true_eq_false, not_false_eq_true, decide_true, decide_false, Bool.not_true, Bool.not_false, false_implies, true_implies, and_true, true_and, Bool.false_eq_true, Bool.true_eq_false, implies_true, Bool.not_not, Classical.not_not, go_sem, Int.reduceToNat, List.take_nil, Nat.zero_mul, Nat.reduceEqDiff, Nat.reduceAdd, Nat.reduceLT, Nat.reduceLeDiff, Nat.reduceMul, ↓reduceIte, reduceCtorEq]
  obtain ⟨⟨j1, c1, d, c2, e1, e2, e3⟩, e4⟩ := hm
  have hW : ∀ k, k < n → gV (wL (fA f now n) n) k = admS (f k).x (f k).A now (f k).w := fun k hk => by
    rw [gV_wL hk]; unfold fA; rw [if_pos hk]
  generalize hWd : wL (fA f now n) n = W at *
  have hok : ∀ i k, k < n → SrOk σ (fA f now i k) ∧ (i ≤ k → fA f now i k = f k) ∧ (k < i → fA f now i k = { f k with w := admS (f k).x (f k).A now (f k).w }) := fun i k hk => by
    have h0 := hf k hk
    refine ⟨?_, fun h => by unfold fA; rw [if_neg (by omega)], fun h => by unfold fA; rw [if_pos h]⟩
    unfold fA
    split
    · have ha := admit_at (f k).x (f k).A now (f k).w
      refine ⟨h0.rd, h0.x, h0.w.admS h0.x (by omega), ?_, by simp only; rw [ha.2]; exact h0.done, h0.len, h0.row⟩
      have h9 := h0.dl
      have h10 := h0.x
      unfold Srv.ok at h10
      exact admitN_dl (B := 90000) (by omega) _ h9
    · exact h0
  refine loop_count n (fun i => ⟨[(0, .p m 0), (1, .p (σ.length + 6) 0), (2, .p σ.length 0), (3, .p (σ.length + 4) 0), (6, .i .i64 (edfPick L now done)), (7, .i .i64 (cand i W)), (13, .sl (σ.length + 5) 0 n n), (14, .i .i64 n), (15, .i .i64 i)], σ ++ (TT σ.length j L.length c cc ch (fA f now i) n ++ τ)⟩)
    (fun i => cellsOf (σ ++ (TT σ.length j L.length c cc ch (fA f now i) n ++ τ)) m = some [.sl j1 0 L.length c1, .sl d 0 L.length c2, .i .i64 now]) (by rw [fA_zero]; exact e1) ?_ fun i hi hJ => ?_
  · rw [fA_zero]
    exact Wk.keep (by simp [look_cons, cand, bestF])
  · simp only [l0_impl_RunServers_2, not_true_eq_false, not_false_eq_true, decide_true, decide_false, Bool.not_true, Bool.not_false, false_implies, true_implies, and_true, true_and, Bool.false_eq_true, Bool.true_eq_false, implies_true, Bool.not_not, Classical.not_not, go_sem, Int.reduceToNat, List.take_nil, Nat.zero_mul, Nat.reduceEqDiff, Nat.reduceAdd, Nat.reduceLT, Nat.reduceLeDiff, Nat.reduceMul, ↓reduceIte, reduceCtorEq]
    refine ⟨fun hin => ?_, fun hge => ?_⟩
    · have hfi := hok i i hin
      have hkk : (TT σ.length j L.length c cc ch (fA f now i) n ++ τ)[8 + 3 * i]? = some (svB (f i)) := by rw [TT_sv hin, hfi.2.1 (Nat.le_refl _)]
      have hset := TT_setW (N := σ.length) (j := j) (Ln := L.length) (c := c) (cc := cc) (ch := ch) (f := fA f now i) (τ := τ) hin (admS (f i).x (f i).A now (f i).w)
      rw [fA_succ, hfi.2.1 (Nat.le_refl _)] at hset
      simp only [at_new, TT_5, rd_workC hin, workC_len, hin, Int.toNat_natCast, onC_of hJ, not_true_eq_false, not_false_eq_true, decide_true, decide_false, Bool.not_true, Bool.not_false, false_implies, true_implies, and_true, true_and, Bool.false_eq_true, Bool.true_eq_false, implies_true, Bool.not_not, Classical.not_not, go_sem, Int.reduceToNat, List.take_nil, Nat.zero_mul, Nat.reduceEqDiff, Nat.reduceAdd, Nat.reduceLT, Nat.reduceLeDiff, Nat.reduceMul, ↓reduceIte, reduceCtorEq]
      refine impl_server_admit_ (x := (f i).x) (req := (f i).req) (A := (f i).A) (s := (f i).w) (hf i hin).rd hkk (hf i hin).x ⟨(hf i hin).w, by have := (hf i hin).dl; omega⟩ (by omega) (hf i hin).len ?_
      rw [hset]
      have hb : cellsOf (σ ++ (TT σ.length j L.length c cc ch (fA f now i) n ++ τ)) (σ.length + (8 + 3 * i)) = some (cellsSv (f i).x (f i).req (f i).w) := by simp only [cellsOf, at_new, hkk]
      have hJ' : cellsOf (σ ++ (TT σ.length j L.length c cc ch (fA f now (i + 1)) n ++ τ)) m = some [.sl j1 0 L.length c1, .sl d 0 L.length c2, .i .i64 now] := by
        rw [← hset, ← set_new, cells_setN (cells_ne hJ hb (by simp))]
        exact hJ
      have hfi' := (hok (i + 1) i hin).2.2 (Nat.lt_succ_self _)
      have hkk' : (TT σ.length j L.length c cc ch (fA f now (i + 1)) n ++ τ)[8 + 3 * i]? = some (blkSv (f i).x (f i).req (admS (f i).x (f i).A now (f i).w)) := by rw [TT_sv hin, hfi']
      have hcs := bestF_succ i (fun k => pend (gV W k)) (fun k => (gV W k).dl)
      change cand (i + 1) W = if pend (gV W i) = true ∧ (cand i W < 0 ∨ (gV W i).dl < (gV W (cand i W).toNat).dl) then (i : Int) else cand i W at hcs
      rw [hW i hin] at hcs
      generalize hw : admS (f i).x (f i).A (now : Int) (f i).w = w at *
      simp only [not_true_eq_false, not_false_eq_true, decide_true, decide_false, Bool.not_true, Bool.not_false, false_implies, true_implies, and_true, true_and, Bool.false_eq_true, Bool.true_eq_false, implies_true, Bool.not_not, Classical.not_not, go_sem, Int.reduceToNat, List.take_nil, Nat.zero_mul, Nat.reduceEqDiff, Nat.reduceAdd, Nat.reduceLT, Nat.reduceLeDiff, Nat.reduceMul, ↓reduceIte, reduceCtorEq]
      refine onCall.by (impl_server_pending_ (x := (f i).x) (req := (f i).req) (s := w) hkk' ⟨rfl, rfl⟩) ?_
      rcases cand_spec i W with ⟨e, _⟩ | ⟨b, e, hb2, _⟩
      · rw [e] at hcs ⊢
        cases hp : pend w
        · rw [if_neg (by rw [hp]; simp)] at hcs
          rw [hcs]
          simp only [not_true_eq_false, not_false_eq_true, decide_true, decide_false, Bool.not_true, Bool.not_false, false_implies, true_implies, and_true, true_and, Bool.false_eq_true, Bool.true_eq_false, implies_true, Bool.not_not, Classical.not_not, go_sem, Int.reduceToNat, List.take_nil, Nat.zero_mul, Nat.reduceEqDiff, Nat.reduceAdd, Nat.reduceLT, Nat.reduceLeDiff, Nat.reduceMul, ↓reduceIte, reduceCtorEq]
          repeat' first | omega | exact hJ' | (exfalso; omega) | exact Wk.keep (by simp [look_cons]) | refine ⟨?_, ?_⟩ | intro _
        · rw [if_pos ⟨hp, .inl (by decide)⟩] at hcs
          rw [hcs]
          simp only [not_true_eq_false, not_false_eq_true, decide_true, decide_false, Bool.not_true, Bool.not_false, false_implies, true_implies, and_true, true_and, Bool.false_eq_true, Bool.true_eq_false, implies_true, Bool.not_not, Classical.not_not, go_sem, Int.reduceToNat, List.take_nil, Nat.zero_mul, Nat.reduceEqDiff, Nat.reduceAdd, Nat.reduceLT, Nat.reduceLeDiff, Nat.reduceMul, ↓reduceIte, reduceCtorEq]
          repeat' first | omega | exact hJ' | (exfalso; omega) | exact Wk.keep (by simp [look_cons]) | refine ⟨?_, ?_⟩ | intro _
      · have hfb := (hok (i + 1) b (by omega)).2.2 (by omega)
        have hkb : (TT σ.length j L.length c cc ch (fA f now (i + 1)) n ++ τ)[8 + 3 * b]? = some (blkSv (f b).x (f b).req (gV W b)) := by rw [TT_sv (by omega), hfb, hW b (by omega)]
        rw [e] at hcs ⊢
        rw [Int.toNat_natCast] at hcs
        have hbn : b < n := by omega
        cases hp : pend w
        · rw [if_neg (by rw [hp]; simp)] at hcs
          rw [hcs]
          simp only [not_true_eq_false, not_false_eq_true, decide_true, decide_false, Bool.not_true, Bool.not_false, false_implies, true_implies, and_true, true_and, Bool.false_eq_true, Bool.true_eq_false, implies_true, Bool.not_not, Classical.not_not, go_sem, Int.reduceToNat, List.take_nil, Nat.zero_mul, Nat.reduceEqDiff, Nat.reduceAdd, Nat.reduceLT, Nat.reduceLeDiff, Nat.reduceMul, ↓reduceIte, reduceCtorEq]
          repeat' first | omega | exact hJ' | (exfalso; omega) | exact Wk.keep (by simp [look_cons]) | refine ⟨?_, ?_⟩ | intro _
        · simp only [at_new, TT_6, TT_5, hkk', hkb, rd_workC hbn, workC_len, cellsSv, Int.toNat_natCast, not_true_eq_false, not_false_eq_true, decide_true, decide_false, Bool.not_true, Bool.not_false, false_implies, true_implies, and_true, true_and, Bool.false_eq_true, Bool.true_eq_false, implies_true, Bool.not_not, Classical.not_not, go_sem, Int.reduceToNat, List.take_nil, Nat.zero_mul, Nat.reduceEqDiff, Nat.reduceAdd, Nat.reduceLT, Nat.reduceLeDiff, Nat.reduceMul, ↓reduceIte, reduceCtorEq]
          by_cases hd : w.dl < (gV W b).dl
          · rw [if_pos ⟨hp, .inr hd⟩] at hcs
            rw [hcs]
            repeat' first | omega | exact hJ' | (exfalso; omega) | exact Wk.keep (by simp [look_cons]) | refine ⟨?_, ?_⟩ | intro _
          · rw [if_neg (fun g => hd (g.2.resolve_left (by omega)))] at hcs
            rw [hcs]
            repeat' first | omega | exact hJ' | (exfalso; omega) | exact Wk.keep (by simp [look_cons]) | refine ⟨?_, ?_⟩ | intro _
    · have ei : i = n := by omega
      subst ei
      have hgo : srvGo i L W now done = if cand i W < 0 ∨ (0 ≤ edfPick L now done ∧ (L.getD (edfPick L now done).toNat default).D ≤ (gV W (cand i W).toNat).dl) then -1 else cand i W := rfl
      have hp0 : Fin (σ.length + ((TT σ.length j L.length c cc ch f i).length + τ.length)) (σ ++ (TT σ.length j L.length c cc ch (fA f now i) i ++ τ)) (.i .i64 (edfPick L now done)) K ∨ True := .inr trivial
      rcases cand_spec i W with ⟨e, _⟩ | ⟨b, e, hb2, hpb, _⟩
      · rw [e, if_pos (.inl (by decide))] at hgo
        rw [e]
        simp only [not_true_eq_false, not_false_eq_true, decide_true, decide_false, Bool.not_true, Bool.not_false, false_implies, true_implies, and_true, true_and, Bool.false_eq_true, Bool.true_eq_false, implies_true, Bool.not_not, Classical.not_not, go_sem, Int.reduceToNat, List.take_nil, Nat.zero_mul, Nat.reduceEqDiff, Nat.reduceAdd, Nat.reduceLT, Nat.reduceLeDiff, Nat.reduceMul, ↓reduceIte, reduceCtorEq]
        refine ⟨fun h => absurd (by decide) h, fun _ => Fin.plain (hneg (by rw [hgo]; decide))⟩
      · have hfb := (hok i b hb2).2.2 hb2
        have hkb : (TT σ.length j L.length c cc ch (fA f now i) i ++ τ)[8 + 3 * b]? = some (blkSv (f b).x (f b).req (gV W b)) := by rw [TT_sv hb2, hfb, hW b hb2]
        rw [e, Int.toNat_natCast] at hgo
        rw [e]
        have hwb : SvOk (f b).x (f b).A (gV W b) := by
          have := (hok i b hb2).1.w
          rw [hfb] at this
          rw [hW b hb2]; exact this
        have hwdl : (gV W b).dl ≤ 100000 := by
          have := (hok i b hb2).1.dl
          rw [hfb] at this
          rw [hW b hb2]
          simp only at this; omega
        have hwd : (gV W b).done ≤ 1000 := by
          have := (hok i b hb2).1.done
          rw [hfb] at this
          rw [hW b hb2]; exact this
        have hm2 : cellsOf (σ ++ (TT σ.length j L.length c cc (ch.set now b) (fA f now i) i ++ τ)) m = some [.sl j1 0 L.length c1, .sl d 0 L.length c2, .i .i64 now] := by
          rw [← TT_setC (ch := ch) (ch.set now b), ← set_new, cells_setN]
          · exact hJ
          · rintro rfl
            have h2 : (σ ++ (TT σ.length j L.length c cc ch (fA f now i) i ++ τ))[σ.length + 2]? = some (.rw ty_int (encInt.row ch) cc) := by rw [at_new]; rfl
            simp only [cellsOf, h2] at hJ
            exact int_row_sl (Option.some.inj hJ)
        have hkb2 : (TT σ.length j L.length c cc (ch.set now b) (fA f now i) i ++ τ)[8 + 3 * b]? = some (blkSv (f b).x (f b).req (gV W b)) := by rw [TT_sv hb2, hfb, hW b hb2]
        have hset1 := TT_setW (N := σ.length) (j := j) (Ln := L.length) (c := c) (cc := cc) (ch := ch.set now b) (f := fA f now i) (τ := τ) hb2 (Go.Ds.serve (f b).x (f b).A (gV W b))
        rw [show (fA f now i b).x = (f b).x by rw [hfb], show (fA f now i b).req = (f b).req by rw [hfb]] at hset1
        have hbc : cellsOf (σ ++ (TT σ.length j L.length c cc (ch.set now b) (fA f now i) i ++ τ)) (σ.length + (8 + 3 * b)) = some (cellsSv (f b).x (f b).req (gV W b)) := by simp only [cellsOf, at_new, hkb2]
        have hm3 : cellsOf (σ ++ (TT σ.length j L.length c cc (ch.set now b) (updW (fA f now i) b (Go.Ds.serve (f b).x (f b).A (gV W b))) i ++ τ)) m = some [.sl j1 0 L.length c1, .sl d 0 L.length c2, .i .i64 now] := by
          rw [← hset1, ← set_new, cells_setN (cells_ne hm2 hbc (by simp))]
          exact hm2
        have hub : updW (fA f now i) b (Go.Ds.serve (f b).x (f b).A (gV W b)) b = { f b with w := Go.Ds.serve (f b).x (f b).A (gV W b) } := by
          unfold updW; rw [if_pos rfl, hfb]
        have hUA : (updW (fA f now i) b (Go.Ds.serve (f b).x (f b).A (gV W b)) b).A = (f b).A := by rw [hub]
        have hUr : (updW (fA f now i) b (Go.Ds.serve (f b).x (f b).A (gV W b)) b).r = (f b).r := by rw [hub]
        have hUrow : (updW (fA f now i) b (Go.Ds.serve (f b).x (f b).A (gV W b)) b).row = (f b).row := by rw [hub]
        have hlrow : (gV W b).at_ < (f b).A.length := by
          have h1 := of_decide_eq_true hpb
          have h2 := hwb.cl
          omega
        have hlrow2 : (gV W b).at_ < (f b).row.length := by rw [(hf b hb2).row]; exact hlrow
        have hfSn : ends (f b).A (gV W b) = false → ∀ k, updW (fA f now i) b (Go.Ds.serve (f b).x (f b).A (gV W b)) k = fS (fA f now i) now b k := fun hen k => by
          unfold updW fS
          by_cases e : k = b
          · subst e
            rw [if_pos rfl, if_pos rfl, hfb, ← hW k hb2, hen]; rfl
          · rw [if_neg e, if_neg e]
        have hfSy : ends (f b).A (gV W b) = true → ∀ k, updR (updW (fA f now i) b (Go.Ds.serve (f b).x (f b).A (gV W b))) b ((f b).row.set (gV W b).at_ (now + 1)) k = fS (fA f now i) now b k := fun hen k => by
          unfold updR updW fS
          by_cases e : k = b
          · subst e
            rw [if_pos rfl, if_pos rfl, if_pos rfl, hfb, ← hW k hb2, hen]; rfl
          · rw [if_neg e, if_neg e, if_neg e]
        have hsetr := TT_setR (N := σ.length) (j := j) (Ln := L.length) (c := c) (cc := cc) (ch := ch.set now b) (f := updW (fA f now i) b (Go.Ds.serve (f b).x (f b).A (gV W b))) (τ := τ) hb2 ((f b).row.set (gV W b).at_ (now + 1))
        rw [hUr] at hsetr
        rcases edf_fair L now done with e5 | ⟨q, e5, hq, _⟩
        · rw [e5, if_neg (by omega)] at hgo
          rw [e5]
          simp only [at_new, set_new, TT_0, TT_2, TT_3, TT_4, TT_5, TT_6, hkb, rd_workC hb2, workC_len, cellsSv, Int.toNat_natCast, not_true_eq_false, not_false_eq_true, decide_true, decide_false, Bool.not_true, Bool.not_false, false_implies, true_implies, and_true, true_and, Bool.false_eq_true, Bool.true_eq_false, implies_true, Bool.not_not, Classical.not_not, go_sem, Int.reduceToNat, List.take_nil, Nat.zero_mul, Nat.reduceEqDiff, Nat.reduceAdd, Nat.reduceLT, Nat.reduceLeDiff, Nat.reduceMul, ↓reduceIte, reduceCtorEq]
          have hneg1 : ¬ (0 : Int) ≤ -1 := by decide
          have hbneg : ¬ (b : Int) < 0 := by omega
          simp only [hneg1, hbneg, onC_of hJ, splI (show now < ch.length by omega), TT_setC, lenI, hch, hnow, not_true_eq_false, not_false_eq_true, decide_true, decide_false, Bool.not_true, Bool.not_false, false_implies, true_implies, and_true, true_and, Bool.false_eq_true, Bool.true_eq_false, implies_true, Bool.not_not, Classical.not_not, go_sem, Int.reduceToNat, List.take_nil, Nat.zero_mul, Nat.reduceEqDiff, Nat.reduceAdd, Nat.reduceLT, Nat.reduceLeDiff, Nat.reduceMul, ↓reduceIte, reduceCtorEq]
          have hg : srvGo i L W now done = b := hgo
          refine ⟨by omega, seq_join (fun _ : Unit => ⟨[], σ ++ (TT σ.length j L.length c cc (ch.set now b) (fS (fA f now i) now b) i ++ τ)⟩) (fun _ => True) ?_ fun _ _ => ?_⟩
          · simp only [at_new, at_new0, set_new, TT_setC, TT_0, TT_2, TT_3, TT_4, TT_5, TT_6, hkb2, rd_workC hb2, workC_len, cellsSv, hb2, Int.toNat_natCast, not_true_eq_false, not_false_eq_true, decide_true, decide_false, Bool.not_true, Bool.not_false, false_implies, true_implies, and_true, true_and, Bool.false_eq_true, Bool.true_eq_false, implies_true, Bool.not_not, Classical.not_not, go_sem, Int.reduceToNat, List.take_nil, Nat.zero_mul, Nat.reduceEqDiff, Nat.reduceAdd, Nat.reduceLT, Nat.reduceLeDiff, Nat.reduceMul, ↓reduceIte, reduceCtorEq]
            refine impl_server_serve_ (x := (f b).x) (req := (f b).req) (A := (f b).A) (s := gV W b) (hf b hb2).rd hkb2 (hf b hb2).x ⟨hwb, hwdl⟩ hpb hwd (hf b hb2).len ?_
            rw [hset1]
            cases hen : ends (f b).A (gV W b)
            · simp only [not_true_eq_false, not_false_eq_true, decide_true, decide_false, Bool.not_true, Bool.not_false, false_implies, true_implies, and_true, true_and, Bool.false_eq_true, Bool.true_eq_false, implies_true, Bool.not_not, Classical.not_not, go_sem, Int.reduceToNat, List.take_nil, Nat.zero_mul, Nat.reduceEqDiff, Nat.reduceAdd, Nat.reduceLT, Nat.reduceLeDiff, Nat.reduceMul, ↓reduceIte, reduceCtorEq]
              rw [TT_congr (fun k hk => hfSn hen k)]
              exact kJ_intro () trivial (Wk.keep (by simp [look_cons]))
            · simp only [at_new, at_new0, set_new, TT_0, TT_2, TT_3, TT_4, TT_5, TT_6, onC_of hm3, rd_servC hb2, servC_len, hb2, hUA, hUr, hlrow, Int.toNat_natCast, not_true_eq_false, not_false_eq_true, decide_true, decide_false, Bool.not_true, Bool.not_false, false_implies, true_implies, and_true, true_and, Bool.false_eq_true, Bool.true_eq_false, implies_true, Bool.not_not, Classical.not_not, go_sem, Int.reduceToNat, List.take_nil, Nat.zero_mul, Nat.reduceEqDiff, Nat.reduceAdd, Nat.reduceLT, Nat.reduceLeDiff, Nat.reduceMul, ↓reduceIte, reduceCtorEq]
              rw [TT_row hb2]
              simp only [rowB, hUrow, hUr, splI hlrow2, lenI, (hf b hb2).row, not_true_eq_false, not_false_eq_true, decide_true, decide_false, Bool.not_true, Bool.not_false, false_implies, true_implies, and_true, true_and, Bool.false_eq_true, Bool.true_eq_false, implies_true, Bool.not_not, Classical.not_not, go_sem, Int.reduceToNat, List.take_nil, Nat.zero_mul, Nat.reduceEqDiff, Nat.reduceAdd, Nat.reduceLT, Nat.reduceLeDiff, Nat.reduceMul, ↓reduceIte, reduceCtorEq]
              rw [hsetr, TT_congr (fun k hk => hfSy hen k)]
              exact ⟨by omega, hlrow, kJ_intro () trivial (Wk.keep (by simp [look_cons]))⟩
          · simp only [not_true_eq_false, not_false_eq_true, decide_true, decide_false, Bool.not_true, Bool.not_false, false_implies, true_implies, and_true, true_and, Bool.false_eq_true, Bool.true_eq_false, implies_true, Bool.not_not, Classical.not_not, go_sem, Int.reduceToNat, List.take_nil, Nat.zero_mul, Nat.reduceEqDiff, Nat.reduceAdd, Nat.reduceLT, Nat.reduceLeDiff, Nat.reduceMul, ↓reduceIte, reduceCtorEq]
            exact Fin.plain (hpos b hg)
        · have gq : L.getD q default = L[q] := by simp [List.getD_eq_getElem?_getD, hq]
          rw [e5, Int.toNat_natCast, gq] at hgo
          rw [e5] at hneg ⊢
          simp only [at_new, at_new0, set_new, TT_0, TT_2, TT_3, TT_4, TT_5, TT_6, hkb, rd_workC hb2, workC_len, cellsSv, Int.toNat_natCast, onC_old hj, rdJ2 hq, lenJ, hq, not_true_eq_false, not_false_eq_true, decide_true, decide_false, Bool.not_true, Bool.not_false, false_implies, true_implies, and_true, true_and, Bool.false_eq_true, Bool.true_eq_false, implies_true, Bool.not_not, Classical.not_not, go_sem, Int.reduceToNat, List.take_nil, Nat.zero_mul, Nat.reduceEqDiff, Nat.reduceAdd, Nat.reduceLT, Nat.reduceLeDiff, Nat.reduceMul, ↓reduceIte, reduceCtorEq]
          have hbneg : ¬ (b : Int) < 0 := by omega
          simp only [hbneg, onC_of hJ, splI (show now < ch.length by omega), TT_setC, lenI, hch, hnow, not_true_eq_false, not_false_eq_true, decide_true, decide_false, Bool.not_true, Bool.not_false, false_implies, true_implies, and_true, true_and, Bool.false_eq_true, Bool.true_eq_false, implies_true, Bool.not_not, Classical.not_not, go_sem, Int.reduceToNat, List.take_nil, Nat.zero_mul, Nat.reduceEqDiff, Nat.reduceAdd, Nat.reduceLT, Nat.reduceLeDiff, Nat.reduceMul, ↓reduceIte, reduceCtorEq]
          refine ⟨by omega, by omega, by omega, fun hle => Fin.plain (hneg (by rw [hgo, if_pos (.inr ⟨by omega, hle⟩)]; decide)), fun hgt => ⟨by omega, ?_⟩⟩
          have hg : srvGo i L W now done = b := by
            rw [hgo, if_neg]
            rintro (h | h)
            · omega
            · exact hgt h.2
          refine seq_join (fun _ : Unit => ⟨[], σ ++ (TT σ.length j L.length c cc (ch.set now b) (fS (fA f now i) now b) i ++ τ)⟩) (fun _ => True) ?_ fun _ _ => ?_
          · simp only [at_new, at_new0, set_new, TT_setC, TT_0, TT_2, TT_3, TT_4, TT_5, TT_6, hkb2, rd_workC hb2, workC_len, cellsSv, hb2, Int.toNat_natCast, not_true_eq_false, not_false_eq_true, decide_true, decide_false, Bool.not_true, Bool.not_false, false_implies, true_implies, and_true, true_and, Bool.false_eq_true, Bool.true_eq_false, implies_true, Bool.not_not, Classical.not_not, go_sem, Int.reduceToNat, List.take_nil, Nat.zero_mul, Nat.reduceEqDiff, Nat.reduceAdd, Nat.reduceLT, Nat.reduceLeDiff, Nat.reduceMul, ↓reduceIte, reduceCtorEq]
            refine impl_server_serve_ (x := (f b).x) (req := (f b).req) (A := (f b).A) (s := gV W b) (hf b hb2).rd hkb2 (hf b hb2).x ⟨hwb, hwdl⟩ hpb hwd (hf b hb2).len ?_
            rw [hset1]
            cases hen : ends (f b).A (gV W b)
            · simp only [not_true_eq_false, not_false_eq_true, decide_true, decide_false, Bool.not_true, Bool.not_false, false_implies, true_implies, and_true, true_and, Bool.false_eq_true, Bool.true_eq_false, implies_true, Bool.not_not, Classical.not_not, go_sem, Int.reduceToNat, List.take_nil, Nat.zero_mul, Nat.reduceEqDiff, Nat.reduceAdd, Nat.reduceLT, Nat.reduceLeDiff, Nat.reduceMul, ↓reduceIte, reduceCtorEq]
              rw [TT_congr (fun k hk => hfSn hen k)]
              exact kJ_intro () trivial (Wk.keep (by simp [look_cons]))
            · simp only [at_new, at_new0, set_new, TT_0, TT_2, TT_3, TT_4, TT_5, TT_6, onC_of hm3, rd_servC hb2, servC_len, hb2, hUA, hUr, hlrow, Int.toNat_natCast, not_true_eq_false, not_false_eq_true, decide_true, decide_false, Bool.not_true, Bool.not_false, false_implies, true_implies, and_true, true_and, Bool.false_eq_true, Bool.true_eq_false, implies_true, Bool.not_not, Classical.not_not, go_sem, Int.reduceToNat, List.take_nil, Nat.zero_mul, Nat.reduceEqDiff, Nat.reduceAdd, Nat.reduceLT, Nat.reduceLeDiff, Nat.reduceMul, ↓reduceIte, reduceCtorEq]
              rw [TT_row hb2]
              simp only [rowB, hUrow, hUr, splI hlrow2, lenI, (hf b hb2).row, not_true_eq_false, not_false_eq_true, decide_true, decide_false, Bool.not_true, Bool.not_false, false_implies, true_implies, and_true, true_and, Bool.false_eq_true, Bool.true_eq_false, implies_true, Bool.not_not, Classical.not_not, go_sem, Int.reduceToNat, List.take_nil, Nat.zero_mul, Nat.reduceEqDiff, Nat.reduceAdd, Nat.reduceLT, Nat.reduceLeDiff, Nat.reduceMul, ↓reduceIte, reduceCtorEq]
              rw [hsetr, TT_congr (fun k hk => hfSy hen k)]
              exact ⟨by omega, hlrow, kJ_intro () trivial (Wk.keep (by simp [look_cons]))⟩
          · simp only [not_true_eq_false, not_false_eq_true, decide_true, decide_false, Bool.not_true, Bool.not_false, false_implies, true_implies, and_true, true_and, Bool.false_eq_true, Bool.true_eq_false, implies_true, Bool.not_not, Classical.not_not, go_sem, Int.reduceToNat, List.take_nil, Nat.zero_mul, Nat.reduceEqDiff, Nat.reduceAdd, Nat.reduceLT, Nat.reduceLeDiff, Nat.reduceMul, ↓reduceIte, reduceCtorEq]
            exact Fin.plain (hpos b hg)
end Go.Proofs.Ytnlciginmeebhaa
/- Contracts: servers: the memory of a run while it is made; what a run keeps. -/
namespace Go.Proofs.Ytnlciginmeebhaa
open Go.Abs Go.Ds
set_option linter.unusedSimpArgs false
set_option linter.unusedVariables false
set_option maxRecDepth 20000
set_option maxHeartbeats 2000000
def workK (N n k : Nat) : List AV := (List.range n).map fun q => if q < k then AV.p (N + (8 + 3 * q)) 0 else .pn
def servK (N : Nat) (f : Nat → SR) (n k : Nat) : List AV := (List.range n).map fun q => if q < k then AV.sl (N + (9 + 3 * q)) 0 (f q).A.length (f q).r else .sn
def TTg (N j Ln c cc : Nat) (ch : List Int) (f : Nat → SR) (n k : Nat) (sv wk : List AV) : List AB :=
  .rw ty_sl_impl_Job [.sl j 0 Ln c] 1 :: .rw ty_impl_ServerRun [.sn, .sn, .sn, .sn] 4 :: .rw ty_int (encInt.row ch) cc :: .rw ty_sl_int sv n :: .rw ty_impl_ServerRun [.sn, .sn, .sl (N + 2) 0 120 cc, .sl (N + 3) 0 n n] 4 ::
    .rw ty_ptr_impl_server wk n :: .rw ty_sl_ptr_impl_server [.sl (N + 5) 0 n n] 1 :: tailF f k
def TTk (N j Ln c cc : Nat) (ch : List Int) (f : Nat → SR) (n k : Nat) : List AB := TTg N j Ln c cc ch f n k (servK N f n k) (workK N n k)
section
variable {N j Ln c cc : Nat} {ch : List Int} {f : Nat → SR} {n k : Nat} {τ : List AB}
theorem TTg_len {sv wk : List AV} : (TTg N j Ln c cc ch f n k sv wk).length = 7 + 3 * k := by simp [TTg, tail_len]; omega
theorem workK_len : (workK N n k).length = n := by simp [workK]
theorem servK_len : (servK N f n k).length = n := by simp [servK]
theorem workK_zero : workK N n 0 = rep n [.pn] := by
  apply List.ext_getElem
  · rw [workK_len]; induction n with
    | zero => rfl
    | succ n ih => rw [rep, List.length_append, ← ih]; simp; omega
  · intro i h1 h2
    have : ∀ x ∈ rep n [AV.pn], x = .pn := by
      clear h1 h2
      induction n with
      | zero => intro x hx; simp [rep] at hx
      | succ n ih =>
        intro x hx
        simp only [rep, List.singleton_append, List.mem_cons] at hx
        rcases hx with rfl | hx
        · rfl
        · exact ih x hx
    rw [this _ (List.getElem_mem h2)]
    simp [workK]
theorem servK_zero : servK N f n 0 = rep n [.sn] := by
  apply List.ext_getElem
  · rw [servK_len]; induction n with
    | zero => rfl
    | succ n ih => rw [rep, List.length_append, ← ih]; simp; omega
  · intro i h1 h2
    have : ∀ x ∈ rep n [AV.sn], x = .sn := by
      clear h1 h2
      induction n with
      | zero => intro x hx; simp [rep] at hx
      | succ n ih =>
        intro x hx
        simp only [rep, List.singleton_append, List.mem_cons] at hx
        rcases hx with rfl | hx
        · rfl
        · exact ih x hx
    rw [this _ (List.getElem_mem h2)]
    simp [servK]
theorem workK_set (h : k < n) : (workK N n k).set k (.p (N + (8 + 3 * k)) 0) = workK N n (k + 1) := by
  apply List.ext_getElem
  · simp [workK]
  · intro i h1 h2
    rw [List.getElem_set]
    simp only [workK, List.getElem_map, List.getElem_range]
    by_cases e : k = i
    · subst e; rw [if_pos rfl, if_pos (by omega)]
    · rw [if_neg e]
      by_cases h3 : i < k
      · rw [if_pos h3, if_pos (by omega)]
      · rw [if_neg h3, if_neg (by omega)]
def updC (f : Nat → SR) (i : Nat) (r : Nat) : Nat → SR := fun k => if k = i then { f k with r := r } else f k
theorem servK_set (h : k < n) (r : Nat) : (servK N f n k).set k (.sl (N + (9 + 3 * k)) 0 (f k).A.length r) = servK N (updC f k r) n (k + 1) := by
  apply List.ext_getElem
  · simp [servK]
  · intro i h1 h2
    rw [List.getElem_set]
    simp only [servK, List.getElem_map, List.getElem_range]
    by_cases e : k = i
    · subst e; rw [if_pos rfl, if_pos (by omega)]; simp [updC]
    · rw [if_neg e]
      by_cases h3 : i < k
      · rw [if_pos h3, if_pos (by omega)]; simp [updC, show ¬ i = k by omega]
      · rw [if_neg h3, if_neg (by omega)]
theorem tail_next (r : Nat) : tailF (updC f k r) (k + 1) = tailF f k ++ [cpB (f k), svB (f k), .rw ty_int (encInt.row (f k).row) r] := by
  rw [tailF, tail_congr (f := updC f k r) (g := f) fun q hq => by unfold updC; rw [if_neg (by omega)]]
  simp [updC]
theorem TTg_next {sv wk : List AV} (r : Nat) : TTg N j Ln c cc ch f n k sv wk ++ [cpB (f k), svB (f k), .rw ty_int (encInt.row (f k).row) r] = TTg N j Ln c cc ch (updC f k r) n (k + 1) sv wk := by
  unfold TTg
  rw [tail_next]; rfl
theorem TTk_all : TTk N j Ln c cc ch f n n = TT N j Ln c cc ch f n := by
  have e1 : workK N n n = workC N n := List.map_congr_left fun q hq => by rw [if_pos (List.mem_range.1 hq)]
  have e2 : servK N f n n = servC N f n := List.map_congr_left fun q hq => by rw [if_pos (List.mem_range.1 hq)]
  unfold TTk TTg TT
  rw [e1, e2]
theorem bel_i (M : Nat) (k : IntKind) (x : Int) : Go.Abs.below M (.i k x) = true := rfl
theorem bel_sn (M : Nat) : Go.Abs.below M .sn = true := rfl
theorem bel_sl {M n : Nat} (h : n < M) (o l c : Nat) : Go.Abs.below M (.sl n o l c) = true := decide_eq_true h
theorem tail_in {M : Nat} : ∀ {n}, (∀ k, k < n → below M (f k).req = true) → (tailF f n).all (Go.Abs.cellsIn M) = true
  | 0, _ => rfl
  | n + 1, h => by
    rw [tailF, List.all_append, tail_in fun k hk => h k (by omega)]
    have := h n (by omega)
    simp only [List.all_cons, List.all_nil, Go.Abs.cellsIn, cellsSv, bel_i, Enc.row_bel, this, Bool.and_self]
theorem TT_in (hj : j < N) (h : ∀ k, k < n → below N (f k).req = true) : (TT N j Ln c cc ch f n).all (Go.Abs.cellsIn (N + (TT N j Ln c cc ch f n).length)) = true := by
  rw [TT_len]
  have h1 : (workC N n).all (below (N + (7 + 3 * n))) = true := by
    rw [List.all_eq_true]
    intro x hx
    obtain ⟨q, hq, rfl⟩ := List.mem_map.1 hx
    have := List.mem_range.1 hq
    simp only [Go.Abs.below, decide_eq_true_eq]; omega
  have h2 : (servC N f n).all (below (N + (7 + 3 * n))) = true := by
    rw [List.all_eq_true]
    intro x hx
    obtain ⟨q, hq, rfl⟩ := List.mem_map.1 hx
    have := List.mem_range.1 hq
    simp only [Go.Abs.below, decide_eq_true_eq]; omega
  have h3 := tail_in (f := f) (M := N + (7 + 3 * n)) (n := n) fun k hk => below_mono (by omega) (h k hk)
  simp only [TT, List.all_cons, h3, Go.Abs.cellsIn, h1, h2, Enc.row_bel, List.all_nil, bel_sn, bel_sl (show j < N + (7 + 3 * n) by omega), bel_sl (show N + 2 < N + (7 + 3 * n) by omega), bel_sl (show N + 3 < N + (7 + 3 * n) by omega), bel_sl (show N + 5 < N + (7 + 3 * n) by omega), Bool.and_self]
end
def mkF (X : List Srv) (req : Nat → AV) (AA : List (List Arr)) (r : Nat → Nat) (st : SS) : Nat → SR := fun k => ⟨gS X k, req k, gAA AA k, gV st.sv k, gR st.sd k, r k⟩
section
variable {X : List Srv} {req : Nat → AV} {AA : List (List Arr)} {r : Nat → Nat} {L : List Job}
theorem wL_mk (st : SS) (t : Int) : wL (fA (mkF X req AA r st) t X.length) X.length = admitAll X AA t st.sv := by
  unfold wL admitAll
  refine List.map_congr_left fun q hq => ?_
  unfold fA
  rw [if_pos (List.mem_range.1 hq)]; rfl
theorem go_mk (t : Nat) : srvGo X.length L (wL (fA (mkF X req AA r (srvS X AA L t).st) t X.length) X.length) t (srvS X AA L t).done = goT X AA L t := by
  rw [wL_mk]; rfl
theorem mk_neg {t : Nat} (h : goT X AA L t = -1) {k : Nat} (hk : k < X.length) : mkF X req AA r (srvS X AA L (t + 1)).st k = fA (mkF X req AA r (srvS X AA L t).st) t X.length k := by
  rw [(st_neg h).1]
  unfold mkF fA
  rw [if_pos hk]
  simp only [wT_get hk]; rfl
theorem mk_pos {t c : Nat} (hA : AA.length = X.length) (h : goT X AA L t = c) {k : Nat} (hk : k < X.length) : mkF X req AA r (srvS X AA L (t + 1)).st k = fS (fA (mkF X req AA r (srvS X AA L t).st) t X.length) t c k := by
  have h1 : svT X AA L (t + 1) k = gV (srvS X AA L (t + 1)).st.sv k := rfl
  have h2 := sv_step (AA := AA) (L := L) (t := t) hk
  have h3 := sd_step (L := L) hA (t := t) hk
  rw [h1] at h2
  unfold mkF fS fA
  rw [if_pos hk]
  simp only
  rw [h2, h3, wT_get hk, h]
  by_cases e : k = c
  · subst e
    simp only [true_and, if_true]; rfl
  · have e2 : ¬ (c : Int) = (k : Int) := by omega
    simp only [e, e2, false_and, if_false]; rfl
theorem sv_dl (hX : srvOk X) {k : Nat} (hk : k < X.length) : ∀ t : Nat, (svT X AA L t k).dl ≤ 24 * t + 24
  | 0 => by rw [sv_zero hk]; show (0 : Int) ≤ 24 * ((0 : Nat) : Int) + 24; decide
  | t + 1 => by
    have ih := sv_dl hX hk t
    have hx := gS_ok hX hk
    unfold Srv.ok at hx
    have ha := admitN_dl (x := gS X k) (A := gAA AA k) (now := (t : Int)) (B := 24 * t + 24) (by omega) ((gAA AA k).length - (svT X AA L t k).came) ih
    change (admS (gS X k) (gAA AA k) t (svT X AA L t k)).dl ≤ _ at ha
    rw [sv_step hk]
    split
    · unfold Go.Ds.serve
      simp only
      split <;> omega
    · omega
theorem pick_range (st : SS) (now : Nat) (done : List Int) : -1 ≤ (srvPick X AA L st now done).1 ∧ (srvPick X AA L st now done).1 < L.length := by
  unfold srvPick
  split
  · rcases edf_fair L now done with e | ⟨q, e, hq, _⟩ <;> simp only [e] <;> omega
  · simp only; omega
end
end Go.Proofs.Ytnlciginmeebhaa
/- Contracts: RunServers of the program. -/
namespace Go.Proofs.Ytnlciginmeebhaa
open Go.Abs Go.Ds
set_option linter.unusedSimpArgs false
set_option linter.unusedVariables false
set_option maxRecDepth 20000
set_option maxHeartbeats 2000000
def RdL (σ : List AB) (v : AV) (R : List (List Int)) : Prop :=
  (∃ n o cap cs, v = .sl n o R.length cap ∧ cellsOf σ n = some cs ∧ o + R.length ≤ cs.length ∧ ∀ k (h : k < R.length), Rd encInt σ (rd cs (o + k)) R[k]) ∨ (v = .sn ∧ R = [] ∧ 0 < σ.length)
theorem RdL.app {σ τ : List AB} {v : AV} {R : List (List Int)} (h : RdL σ v R) : RdL (σ ++ τ) v R := by
  rcases h with ⟨n, o, cap, cs, h1, h2, h3, h4⟩ | ⟨h1, h2, h3⟩
  · exact .inl ⟨n, o, cap, cs, h1, cells_old h2 τ, h3, fun k hk => (h4 k hk).app⟩
  · exact .inr ⟨h1, h2, by rw [List.length_append]; omega⟩
theorem RdL.data {σ : List AB} {v : AV} {R : List (List Int)} (h : RdL σ v R) : v.data = true := by
  rcases h with ⟨n, o, cap, cs, rfl, _⟩ | ⟨rfl, _⟩ <;> rfl
def SrvAns (σ : List AB) (x : AV) (run fin ch : List Int) (sd : List (List Int)) : Prop :=
  ∃ v1 v2 v3 v4, x = .agg [v1, v2, v3, v4] ∧ Rd encInt σ v1 run ∧ Rd encInt σ v2 fin ∧ Rd encInt σ v3 ch ∧ RdL σ v4 sd
theorem SrvAns.app {σ τ : List AB} {x : AV} {run fin ch : List Int} {sd : List (List Int)} (h : SrvAns σ x run fin ch sd) : SrvAns (σ ++ τ) x run fin ch sd := by
  obtain ⟨v1, v2, v3, v4, h0, h1, h2, h3, h4⟩ := h
  exact ⟨v1, v2, v3, v4, h0, h1.app, h2.app, h3.app, h4.app⟩
def SrvAnsN (N : Nat) (σ : List AB) (x : AV) (run fin ch : List Int) (sd : List (List Int)) : Prop :=
  ∀ σ', σ'.length = σ.length → (∀ n, N ≤ n → σ'[n]? = σ[n]?) → SrvAns σ' x run fin ch sd
theorem SrvAnsN.set {N n : Nat} {σ : List AB} {x : AV} {run fin ch : List Int} {sd : List (List Int)} (h : SrvAnsN N σ x run fin ch sd) (hn : n < N) (B : AB) : SrvAns (σ.set n B) x run fin ch sd :=
  h _ (List.length_set ..) fun k hk => by rw [List.getElem?_set_ne (by omega)]
theorem SrvAnsN.plain {N : Nat} {σ : List AB} {x : AV} {run fin ch : List Int} {sd : List (List Int)} (h : SrvAnsN N σ x run fin ch sd) : SrvAns σ x run fin ch sd := h _ rfl fun _ _ => rfl
def srvRunOk (S : List Task) (L : List Job) (X : List Srv) (AA : List (List Arr)) : Prop := jobsLegal S L ∧ srvOk X ∧ arrsOk X AA
theorem Rd.own' {α : Type} {E : Enc α} {σ : List AB} {n len cap : Nat} {L : List α} (h : cellsOf σ n = some (E.row L)) (hl : L.length = len) : Rd E σ (.sl n 0 len cap) L := by subst hl; exact Rd.own h
theorem rep_sn_mem (n : Nat) : ∀ x ∈ rep n [AV.sn], x = .sn := by
  induction n with
  | zero => intro x hx; simp [rep] at hx
  | succ n ih =>
    intro x hx
    simp only [rep, List.singleton_append, List.mem_cons] at hx
    rcases hx with rfl | hx
    · rfl
    · exact ih x hx
theorem rep_sn_ren (n : Nat) (ν : Nat → Nat × Nat) : (rep n [AV.sn]).map (renC ν) = rep n [AV.sn] := by
  apply List.ext_getElem
  · simp
  · intro i h1 h2
    rw [List.getElem_map, rep_sn_mem n _ (List.getElem_mem h2)]; rfl
theorem rep_sn_bel (n N : Nat) : (rep n [AV.sn]).all (below N) = true := List.all_eq_true.2 fun x hx => by rw [rep_sn_mem n x hx]; rfl
theorem impl_RunServers_ {σ : List AB} {S : List Task} {L : List Job} {X : List Srv} {AA : List (List Arr)} {v : AV} {j c xn xo xc an ao ac : Nat} {K : AV → List AB → Prop} (hs : S.length ≤ 1000000) (hl : L.length ≤ 1000) (hx : X.length ≤ 1000) (ha : AA.length ≤ 1000) (haa : ∀ A ∈ AA, A.length ≤ 1000)
    (hS : Rd encTask σ v S) (hj : cellsOf σ j = some (encJob.row L)) (hX : Rd encSrv σ (.sl xn xo X.length xc) X) (hA : RdA σ (.sl an ao AA.length ac) AA)
    (hn : ¬ srvRunOk S L X AA → ∀ τ, K (.agg [.sn, .sn, .sn, .sn]) (σ ++ τ))
    (hy : srvRunOk S L X AA → ∀ τ x, SrvAnsN σ.length (σ ++ τ) x (srvRun X AA L) (srvFin X AA L) (srvCh X AA L) (srvSd X AA L) → K x (σ ++ τ)) :
    CallWp Try.prog n_impl_RunServers [v, .sl j 0 L.length c, .sl xn xo X.length xc, .sl an ao AA.length ac] σ K := by
  refine callC_impl_RunServers (by simp) fun hC hArgs => ?_
  simp only [c_impl_RunServers, hS.data, hX.data, hA.data, List.append_assoc, at_new, at_new0, set_new, set_new0, not_true_eq_false, not_false_eq_true, decide_true, decide_false, Bool.not_true, Bool.not_false, false_implies, true_implies, and_true, true_and, Bool.false_eq_true, Bool.true_eq_false, implies_true, Bool.not_not, Classical.not_not, go_sem, Int.reduceToNat, List.take_nil, Nat.zero_mul, Nat.reduceEqDiff, Nat.reduceAdd, Nat.reduceLT, Nat.reduceLeDiff, Nat.reduceMul, ↓reduceIte, reduceCtorEq]
  have hjn : j < σ.length := cells_lt hj
  have hxn : xn < σ.length := by
    rcases hX with ⟨n, o, cap, cs, e, h, _⟩ | ⟨e, _⟩
    · cases e; exact h
    · cases e
  have han : an < σ.length := by
    rcases hA with ⟨n, o, cap, cs, e, h, _⟩ | ⟨e, _⟩
    · cases e; exact cells_lt h
    · cases e
  have no : ¬ srvRunOk S L X AA → Fin σ.length (σ ++ [.rw ty_sl_impl_Job [.sl j 0 L.length c] 1, .rw ty_impl_ServerRun [.sn, .sn, .sn, .sn] 4]) (.agg [.sn, .sn, .sn, .sn]) K := fun h => Fin.plain (hn h _)
  refine impl_JobsLegal_ (S := S) (L := L) (by omega) (by omega) hS.app (Rd.app (Rd.own hj)) ?_
  simp only [List.append_assoc, at_new, at_new0, set_new, set_new0, not_true_eq_false, not_false_eq_true, decide_true, decide_false, Bool.not_true, Bool.not_false, false_implies, true_implies, and_true, true_and, Bool.false_eq_true, Bool.true_eq_false, implies_true, Bool.not_not, Classical.not_not, go_sem, Int.reduceToNat, List.take_nil, Nat.zero_mul, Nat.reduceEqDiff, Nat.reduceAdd, Nat.reduceLT, Nat.reduceLeDiff, Nat.reduceMul, ↓reduceIte, reduceCtorEq]
  refine ⟨fun h1 => ?_, fun h1 => ?_⟩
  · refine impl_ServersValid_ (L := X) (by omega) hX.app ?_
    simp only [at_new, at_new0, set_new, set_new0, not_true_eq_false, not_false_eq_true, decide_true, decide_false, Bool.not_true, Bool.not_false, false_implies, true_implies, and_true, true_and, Bool.false_eq_true, Bool.true_eq_false, implies_true, Bool.not_not, Classical.not_not, go_sem, Int.reduceToNat, List.take_nil, Nat.zero_mul, Nat.reduceEqDiff, Nat.reduceAdd, Nat.reduceLT, Nat.reduceLeDiff, Nat.reduceMul, ↓reduceIte, reduceCtorEq]
    refine ⟨fun h2 => ⟨fun h3 => ?_, fun h3 => no fun h => h3 h.2.2.1⟩, fun h2 => no fun h => h2 h.2.1⟩
    refine slices_ContainsFunc_AA_ (by omega) hA.app (fun A => !decide (arrLegal A)) (fun A hAm u hu K hk => impl_RunServers_1_ (by have := haa A hAm; omega) hu hk) ?_
    simp only [at_new, at_new0, set_new, set_new0, not_true_eq_false, not_false_eq_true, decide_true, decide_false, Bool.not_true, Bool.not_false, false_implies, true_implies, and_true, true_and, Bool.false_eq_true, Bool.true_eq_false, implies_true, Bool.not_not, Classical.not_not, go_sem, Int.reduceToNat, List.take_nil, Nat.zero_mul, Nat.reduceEqDiff, Nat.reduceAdd, Nat.reduceLT, Nat.reduceLeDiff, Nat.reduceMul, ↓reduceIte, reduceCtorEq]
    refine ⟨fun h4 => no fun h => ?_, fun h4 => ?_⟩
    · obtain ⟨A, hAm, hAl⟩ := h4
      exact of_decide_eq_true hAl (h.2.2.2 A hAm)
    have hok : srvRunOk S L X AA := ⟨h1, h2, h3, fun A hAm => Classical.byContradiction fun hnn => h4 ⟨A, hAm, by simpa using hnn⟩⟩
    obtain ⟨ch0, hch0⟩ : ∃ ch0 : List Int, ch0 = List.replicate 120 (-1) := ⟨_, rfl⟩
    refine seq_join (fun cc : Nat => ⟨[(2, .sl xn xo X.length xc), (3, .sl an ao AA.length ac), (5, .p σ.length 0), (8, .p (σ.length + 1) 0), (9, .p (σ.length + 4) 0)],
      σ ++ [.rw ty_sl_impl_Job [.sl j 0 L.length c] 1, .rw ty_impl_ServerRun [.sn, .sn, .sn, .sn] 4, .rw ty_int (encInt.row ch0) cc, .rw ty_sl_int (rep X.length [.sn]) X.length, .rw ty_impl_ServerRun [.sn, .sn, .sl (σ.length + 2) 0 120 cc, .sl (σ.length + 3) 0 X.length X.length] 4]⟩)
      (fun _ => True) ?_ fun cc _ => ?_
    · simp only [List.append_assoc, at_new, at_new0, set_new, set_new0, not_true_eq_false, not_false_eq_true, decide_true, decide_false, Bool.not_true, Bool.not_false, false_implies, true_implies, and_true, true_and, Bool.false_eq_true, Bool.true_eq_false, implies_true, Bool.not_not, Classical.not_not, go_sem, Int.reduceToNat, List.take_nil, Nat.zero_mul, Nat.reduceEqDiff, Nat.reduceAdd, Nat.reduceLT, Nat.reduceLeDiff, Nat.reduceMul, ↓reduceIte, reduceCtorEq]
      repeat' first
        | omega
        | (refine impl_none_ 120 (by omega) fun cc => ?_; simp only [← hch0, List.append_assoc, at_new, at_new0, set_new, set_new0, not_true_eq_false, not_false_eq_true, decide_true, decide_false, Bool.not_true, Bool.not_false, false_implies, true_implies, and_true, true_and, Bool.false_eq_true, Bool.true_eq_false, implies_true, Bool.not_not, Classical.not_not, go_sem, Int.reduceToNat, List.take_nil, Nat.zero_mul, Nat.reduceEqDiff, Nat.reduceAdd, Nat.reduceLT, Nat.reduceLeDiff, Nat.reduceMul, ↓reduceIte, reduceCtorEq])
        | (refine kJ_intro cc trivial (Wk.pickH hC (Nat.le_refl _) [0, 1, 2, 3, 4] ?hT ?hτ ?hf)
           case hτ => simp [renB, renC, gR_new, gR_new0, gR_lt hjn, pickB, Enc.row_ren, rep_sn_ren]; done
           case hf => simp [Go.Abs.cellsIn, Enc.row_bel, Go.Abs.below, rep_sn_bel] <;> omega
           case hT =>
             intro p hp
             simp only [List.mem_cons, List.not_mem_nil, or_false] at hp
             rcases hp with rfl | rfl | rfl | rfl | rfl <;> simp [look_cons, Go.Abs.belowT, Go.Abs.below1, Go.Abs.below, Go.Abs.sees, Go.Abs.ren, Go.Abs.ren1, Go.Abs.renC, gR_new, gR_new0, gR_lt hxn, gR_lt han] <;> omega)
        | (refine kJ_intro cc trivial (Wk.pickH hC (Nat.le_refl _) [0, 1, 2, 4, 3] ?hT ?hτ ?hf)
           case hτ => simp [renB, renC, gR_new, gR_new0, gR_lt hjn, pickB, Enc.row_ren, rep_sn_ren]; done
           case hf => simp [Go.Abs.cellsIn, Enc.row_bel, Go.Abs.below, rep_sn_bel] <;> omega
           case hT =>
             intro p hp
             simp only [List.mem_cons, List.not_mem_nil, or_false] at hp
             rcases hp with rfl | rfl | rfl | rfl | rfl <;> simp [look_cons, Go.Abs.belowT, Go.Abs.below1, Go.Abs.below, Go.Abs.sees, Go.Abs.ren, Go.Abs.ren1, Go.Abs.renC, gR_new, gR_new0, gR_lt hxn, gR_lt han] <;> omega)
        | (refine kJ_intro cc trivial (Wk.pickH hC (Nat.le_refl _) [0, 1, 3, 2, 4] ?hT ?hτ ?hf)
           case hτ => simp [renB, renC, gR_new, gR_new0, gR_lt hjn, pickB, Enc.row_ren, rep_sn_ren]; done
           case hf => simp [Go.Abs.cellsIn, Enc.row_bel, Go.Abs.below, rep_sn_bel] <;> omega
           case hT =>
             intro p hp
             simp only [List.mem_cons, List.not_mem_nil, or_false] at hp
             rcases hp with rfl | rfl | rfl | rfl | rfl <;> simp [look_cons, Go.Abs.belowT, Go.Abs.below1, Go.Abs.below, Go.Abs.sees, Go.Abs.ren, Go.Abs.ren1, Go.Abs.renC, gR_new, gR_new0, gR_lt hxn, gR_lt han] <;> omega)
        | (refine kJ_intro cc trivial (Wk.pickH hC (Nat.le_refl _) [0, 1, 4, 2, 3] ?hT ?hτ ?hf)
           case hτ => simp [renB, renC, gR_new, gR_new0, gR_lt hjn, pickB, Enc.row_ren, rep_sn_ren]; done
           case hf => simp [Go.Abs.cellsIn, Enc.row_bel, Go.Abs.below, rep_sn_bel] <;> omega
           case hT =>
             intro p hp
             simp only [List.mem_cons, List.not_mem_nil, or_false] at hp
             rcases hp with rfl | rfl | rfl | rfl | rfl <;> simp [look_cons, Go.Abs.belowT, Go.Abs.below1, Go.Abs.below, Go.Abs.sees, Go.Abs.ren, Go.Abs.ren1, Go.Abs.renC, gR_new, gR_new0, gR_lt hxn, gR_lt han] <;> omega)
        | (refine kJ_intro cc trivial (Wk.pickH hC (Nat.le_refl _) [0, 1, 3, 4, 2] ?hT ?hτ ?hf)
           case hτ => simp [renB, renC, gR_new, gR_new0, gR_lt hjn, pickB, Enc.row_ren, rep_sn_ren]; done
           case hf => simp [Go.Abs.cellsIn, Enc.row_bel, Go.Abs.below, rep_sn_bel] <;> omega
           case hT =>
             intro p hp
             simp only [List.mem_cons, List.not_mem_nil, or_false] at hp
             rcases hp with rfl | rfl | rfl | rfl | rfl <;> simp [look_cons, Go.Abs.belowT, Go.Abs.below1, Go.Abs.below, Go.Abs.sees, Go.Abs.ren, Go.Abs.ren1, Go.Abs.renC, gR_new, gR_new0, gR_lt hxn, gR_lt han] <;> omega)
        | (refine kJ_intro cc trivial (Wk.pickH hC (Nat.le_refl _) [0, 1, 4, 3, 2] ?hT ?hτ ?hf)
           case hτ => simp [renB, renC, gR_new, gR_new0, gR_lt hjn, pickB, Enc.row_ren, rep_sn_ren]; done
           case hf => simp [Go.Abs.cellsIn, Enc.row_bel, Go.Abs.below, rep_sn_bel] <;> omega
           case hT =>
             intro p hp
             simp only [List.mem_cons, List.not_mem_nil, or_false] at hp
             rcases hp with rfl | rfl | rfl | rfl | rfl <;> simp [look_cons, Go.Abs.belowT, Go.Abs.below1, Go.Abs.below, Go.Abs.sees, Go.Abs.ren, Go.Abs.ren1, Go.Abs.renC, gR_new, gR_new0, gR_lt hxn, gR_lt han] <;> omega)
        | refine And.intro ?_ ?_
    · have hAf : ∃ acs : List AV, cellsOf σ an = some acs ∧ ao + AA.length ≤ acs.length ∧ ∀ k (h : k < AA.length), Rd encArr σ (rd acs (ao + k)) AA[k] := by
        rcases hA with ⟨n, o, cap, cs, e, h⟩ | ⟨e, _⟩
        · cases e; exact ⟨cs, h⟩
        · cases e
      have hXf : ∃ xcs : List AV, cellsOf σ xn = some xcs ∧ xo + X.length * 2 ≤ xcs.length ∧ win xcs xo (X.length * 2) = encSrv.row X := by
        rcases hX with ⟨n, o, cap, cs, e, _, h⟩ | ⟨e, _⟩
        · cases e; exact ⟨cs, h⟩
        · cases e
      obtain ⟨acs, ac1, ac2, ac3⟩ := hAf
      obtain ⟨xcs, xc1, xc2, xc3⟩ := hXf
      have hX2 := hok.2.1.1
      obtain ⟨mk0, hmk⟩ : ∃ mk0 : (Nat → Nat) → Nat → SR, mk0 = fun r => mkF X (fun k => rd acs (ao + k)) AA r (ss0 X AA) := ⟨_, rfl⟩
      simp only [List.append_assoc, at_new, at_new0, set_new, set_new0, not_true_eq_false, not_false_eq_true, decide_true, decide_false, Bool.not_true, Bool.not_false, false_implies, true_implies, and_true, true_and, Bool.false_eq_true, Bool.true_eq_false, implies_true, Bool.not_not, Classical.not_not, go_sem, Int.reduceToNat, List.take_nil, Nat.zero_mul, Nat.reduceEqDiff, Nat.reduceAdd, Nat.reduceLT, Nat.reduceLeDiff, Nat.reduceMul, ↓reduceIte, reduceCtorEq]
      refine ⟨by omega, ?_⟩
      refine loop_intro (fun i : Nat × (Nat → Nat) => ⟨[(3, .sl an ao AA.length ac), (5, .p σ.length 0), (8, .p (σ.length + 1) 0), (9, .p (σ.length + 4) 0), (10, .p (σ.length + 6) 0), (42, .sl xn xo X.length xc), (43, .i .i64 X.length), (44, .i .i64 i.1)],
        σ ++ TTk σ.length j L.length c cc ch0 (mk0 i.2) X.length i.1⟩) (fun i => i.1 ≤ X.length) (fun i => X.length - i.1) (0, fun _ => 0) (Nat.zero_le _) ?_ ?_
      · simp only [TTk, TTg, workK_zero, servK_zero, tailF]
        exact Wk.keep (by simp [look_cons])
      · rintro ⟨k, r⟩ hk
        simp only at hk
        simp only [l0_impl_RunServers, not_true_eq_false, not_false_eq_true, decide_true, decide_false, Bool.not_true, Bool.not_false, false_implies, true_implies, and_true, true_and, Bool.false_eq_true, Bool.true_eq_false, implies_true, Bool.not_not, Classical.not_not, go_sem, Int.reduceToNat, List.take_nil, Nat.zero_mul, Nat.reduceEqDiff, Nat.reduceAdd, Nat.reduceLT, Nat.reduceLeDiff, Nat.reduceMul, ↓reduceIte, reduceCtorEq]
        refine ⟨fun hlt => ?_, fun hge => ?_⟩
        · have hkA : k < AA.length := by omega
          obtain ⟨wx1, wx2⟩ := win_at (E := encSrv) xc2 xc3 k hlt
          simp only [encSrv] at wx1 wx2
          have hrq := ac3 k hkA
          have hf1 : (mk0 r k).x = X[k] := by rw [hmk]; simp [mkF, gS, List.getD_eq_getElem?_getD, hlt]
          have hf2 : (mk0 r k).req = rd acs (ao + k) := by rw [hmk]; rfl
          have hf3 : (mk0 r k).A = AA[k] := by rw [hmk]; simp [mkF, gAA, List.getD_eq_getElem?_getD, hkA]
          have hf4 : (mk0 r k).w = sv0 X[k] := by rw [hmk]; simp [mkF, gV, ss0, List.getD_eq_getElem?_getD, hlt]
          have hf5 : (mk0 r k).row = List.replicate AA[k].length (-1) := by rw [hmk]; simp [mkF, Go.Ds.gR, ss0, List.getD_eq_getElem?_getD, hkA]
          have hnext : ∀ cap, updC (mk0 r) k cap = mk0 (fun q => if q = k then cap else r q) := fun cap => by
            rw [hmk]; funext q; unfold updC mkF
            by_cases e : q = k
            · subst e; simp
            · simp [e]
          have hlen20 : AA[k].length ≤ 1000 := haa _ (List.getElem_mem hkA)
          have hPl : ∀ sv wk, (TTg σ.length j L.length c cc ch0 (mk0 r) X.length k sv wk).length = 7 + 3 * k := fun sv wk => TTg_len
          have hP3 : ∀ sv wk R, (TTg σ.length j L.length c cc ch0 (mk0 r) X.length k sv wk ++ R)[3]? = some (.rw ty_sl_int sv X.length) := fun sv wk R => rfl
          have hP4 : ∀ sv wk R, (TTg σ.length j L.length c cc ch0 (mk0 r) X.length k sv wk ++ R)[4]? = some (.rw ty_impl_ServerRun [.sn, .sn, .sl (σ.length + 2) 0 120 cc, .sl (σ.length + 3) 0 X.length X.length] 4) := fun sv wk R => rfl
          have hP5 : ∀ sv wk R, (TTg σ.length j L.length c cc ch0 (mk0 r) X.length k sv wk ++ R)[5]? = some (.rw ty_ptr_impl_server wk X.length) := fun sv wk R => rfl
          have hP6 : ∀ sv wk R, (TTg σ.length j L.length c cc ch0 (mk0 r) X.length k sv wk ++ R)[6]? = some (.rw ty_sl_ptr_impl_server [.sl (σ.length + 5) 0 X.length X.length] 1) := fun sv wk R => rfl
          have hR0 : ∀ sv wk B R, (TTg σ.length j L.length c cc ch0 (mk0 r) X.length k sv wk ++ (B :: R))[7 + 3 * k]? = some B := fun sv wk B R => by
            rw [List.getElem?_append_right (by rw [hPl]; omega), hPl, Nat.sub_self]; rfl
          have hS0 : ∀ sv wk B B' R, (TTg σ.length j L.length c cc ch0 (mk0 r) X.length k sv wk ++ (B :: R)).set (7 + 3 * k) B' = TTg σ.length j L.length c cc ch0 (mk0 r) X.length k sv wk ++ (B' :: R) := fun sv wk B B' R => by
            rw [List.set_append_right _ _ (by rw [hPl]; omega), hPl, Nat.sub_self]; rfl
          have hS5 : ∀ sv wk wk' R, (TTg σ.length j L.length c cc ch0 (mk0 r) X.length k sv wk ++ R).set 5 (.rw ty_ptr_impl_server wk' X.length) = TTg σ.length j L.length c cc ch0 (mk0 r) X.length k sv wk' ++ R := fun sv wk wk' R => rfl
          have hS3 : ∀ sv wk sv' R, (TTg σ.length j L.length c cc ch0 (mk0 r) X.length k sv wk ++ R).set 3 (.rw ty_sl_int sv' X.length) = TTg σ.length j L.length c cc ch0 (mk0 r) X.length k sv' wk ++ R := fun sv wk sv' R => rfl
          have e8 : 7 + 3 * k + 1 = 8 + 3 * k := by omega
          have e9 : 7 + 3 * k + 1 + 1 = 9 + 3 * k := by omega
          have hspW : ∀ v, spl (workK σ.length X.length k) k [v] = (workK σ.length X.length k).set k v := fun v => rfl
          have hspS : ∀ v, spl (servK σ.length (mk0 r) X.length k) k [v] = (servK σ.length (mk0 r) X.length k).set k v := fun v => rfl
          generalize hrv : rd acs (ao + k) = rv at *
          rcases hrq with ⟨qn, qo, qc, qcs, rfl, hqr⟩ | ⟨rfl, hA0, _⟩
          · simp only [TTk, List.append_assoc, List.cons_append, List.nil_append, at_new, at_new0, set_new, set_new0, onC_old xc1, onC_old ac1, wx2, hPl, hP3, hP4, hP5, hP6, hR0, hS0, hS5, hS3, e8, e9, hrv, workK_len, servK_len, hlt, hspW, not_true_eq_false, not_false_eq_true, decide_true, decide_false, Bool.not_true, Bool.not_false, false_implies, true_implies, and_true, true_and, Bool.false_eq_true, Bool.true_eq_false, implies_true, Bool.not_not, Classical.not_not, go_sem, Int.reduceToNat, List.take_nil, Nat.zero_mul, Nat.reduceEqDiff, Nat.reduceAdd, Nat.reduceLT, Nat.reduceLeDiff, Nat.reduceMul, ↓reduceIte, reduceCtorEq]
            refine ⟨by omega, by omega, by omega, by omega, by omega, by omega, by omega, impl_none_ AA[k].length (by omega) fun cap => ?_⟩
            have hb1 : cpB (mk0 r k) = .rw ty_impl_Server [.i .i64 X[k].B, .i .i64 X[k].P] 2 := by unfold cpB; rw [hf1]
            have hb2 : svB (mk0 r k) = .rw ty_impl_server [.i .i64 X[k].B, .i .i64 X[k].P, .i .i64 X[k].B, .i .i64 0, .sl qn qo AA[k].length qc, .i .i64 0, .i .i64 0, .i .i64 0] 8 := by
              unfold svB blkSv cellsSv; rw [hf1, hf2, hf4]; rfl
            have hnx := TTg_next (N := σ.length) (j := j) (Ln := L.length) (c := c) (cc := cc) (ch := ch0) (f := mk0 r) (n := X.length) (k := k) (sv := servK σ.length (updC (mk0 r) k cap) X.length (k + 1)) (wk := workK σ.length X.length (k + 1)) cap
            rw [hb1, hb2, hf5, hnext] at hnx
            have hsk := servK_set (N := σ.length) (f := mk0 r) hlt cap
            rw [hf3, hnext] at hsk
            simp only [List.append_assoc, List.cons_append, List.nil_append, at_new, at_new0, set_new, set_new0, onC_old xc1, onC_old ac1, wx2, hPl, hP3, hP4, hP5, hP6, hR0, hS0, hS5, hS3, e8, e9, hrv, workK_len, servK_len, hlt, hspS, not_true_eq_false, not_false_eq_true, decide_true, decide_false, Bool.not_true, Bool.not_false, false_implies, true_implies, and_true, true_and, Bool.false_eq_true, Bool.true_eq_false, implies_true, Bool.not_not, Classical.not_not, go_sem, Int.reduceToNat, List.take_nil, Nat.zero_mul, Nat.reduceEqDiff, Nat.reduceAdd, Nat.reduceLT, Nat.reduceLeDiff, Nat.reduceMul, ↓reduceIte, reduceCtorEq]
            refine ⟨by omega, by omega, by omega, (k + 1, fun q => if q = k then cap else r q), ⟨by omega, by omega⟩, ?_⟩
            rw [hsk, workK_set hlt, hnx]
            exact Wk.keep (by simp [look_cons])
          · simp only [TTk, List.append_assoc, List.cons_append, List.nil_append, at_new, at_new0, set_new, set_new0, onC_old xc1, onC_old ac1, wx2, hPl, hP3, hP4, hP5, hP6, hR0, hS0, hS5, hS3, e8, e9, hrv, workK_len, servK_len, hlt, hspW, not_true_eq_false, not_false_eq_true, decide_true, decide_false, Bool.not_true, Bool.not_false, false_implies, true_implies, and_true, true_and, Bool.false_eq_true, Bool.true_eq_false, implies_true, Bool.not_not, Classical.not_not, go_sem, Int.reduceToNat, List.take_nil, Nat.zero_mul, Nat.reduceEqDiff, Nat.reduceAdd, Nat.reduceLT, Nat.reduceLeDiff, Nat.reduceMul, ↓reduceIte, reduceCtorEq]
            have hA00 : AA[k].length = 0 := by rw [hA0]; rfl
            refine ⟨by omega, by omega, by omega, by omega, by omega, by omega, by omega, impl_none_ 0 (by omega) fun cap => ?_⟩
            have hb1 : cpB (mk0 r k) = .rw ty_impl_Server [.i .i64 X[k].B, .i .i64 X[k].P] 2 := by unfold cpB; rw [hf1]
            have hb2 : svB (mk0 r k) = .rw ty_impl_server [.i .i64 X[k].B, .i .i64 X[k].P, .i .i64 X[k].B, .i .i64 0, .sn, .i .i64 0, .i .i64 0, .i .i64 0] 8 := by
              unfold svB blkSv cellsSv; rw [hf1, hf2, hf4]; rfl
            have hnx := TTg_next (N := σ.length) (j := j) (Ln := L.length) (c := c) (cc := cc) (ch := ch0) (f := mk0 r) (n := X.length) (k := k) (sv := servK σ.length (updC (mk0 r) k cap) X.length (k + 1)) (wk := workK σ.length X.length (k + 1)) cap
            rw [hb1, hb2, hf5, hnext] at hnx
            have hsk := servK_set (N := σ.length) (f := mk0 r) hlt cap
            rw [hf3, hnext] at hsk
            rw [hA00] at hsk hnx
            simp only [List.append_assoc, List.cons_append, List.nil_append, at_new, at_new0, set_new, set_new0, onC_old xc1, onC_old ac1, wx2, hPl, hP3, hP4, hP5, hP6, hR0, hS0, hS5, hS3, e8, e9, hrv, workK_len, servK_len, hlt, hspS, not_true_eq_false, not_false_eq_true, decide_true, decide_false, Bool.not_true, Bool.not_false, false_implies, true_implies, and_true, true_and, Bool.false_eq_true, Bool.true_eq_false, implies_true, Bool.not_not, Classical.not_not, go_sem, Int.reduceToNat, List.take_nil, Nat.zero_mul, Nat.reduceEqDiff, Nat.reduceAdd, Nat.reduceLT, Nat.reduceLeDiff, Nat.reduceMul, ↓reduceIte, reduceCtorEq]
            refine ⟨by omega, by omega, by omega, (k + 1, fun q => if q = k then cap else r q), ⟨by omega, by omega⟩, ?_⟩
            rw [hsk, workK_set hlt, hnx]
            exact Wk.keep (by simp [look_cons])
        · have ek : k = X.length := by omega
          subst ek
          have hrq : ∀ q (hq : q < X.length), Rd encArr σ (rd acs (ao + q)) (gAA AA q) := fun q hq => by
            have h := ac3 q (by omega)
            rw [show gAA AA q = AA[q]'(by omega) by simp [gAA, List.getD_eq_getElem?_getD, show q < AA.length by omega]]
            exact h
          have hbel : ∀ q (hq : q < X.length), Go.Abs.below σ.length (rd acs (ao + q)) = true := fun q hq => by
            rcases hrq q hq with ⟨n, o, cap, cs, e, h, _⟩ | ⟨e, _⟩
            · rw [e]; exact bel_sl h _ _ _
            · rw [e]; exact bel_sn _
          rw [TTk_all, hmk]
          have hT0 : ∀ R, (TT σ.length j L.length c cc ch0 (mkF X (fun k => rd acs (ao + k)) AA r (ss0 X AA)) X.length ++ R)[0]? = some (.rw ty_sl_impl_Job [.sl j 0 L.length c] 1) := fun R => rfl
          have hT0' : (TT σ.length j L.length c cc ch0 (mkF X (fun k => rd acs (ao + k)) AA r (ss0 X AA)) X.length)[0]? = some (.rw ty_sl_impl_Job [.sl j 0 L.length c] 1) := rfl
          simp only [at_new0, hT0', not_true_eq_false, not_false_eq_true, decide_true, decide_false, Bool.not_true, Bool.not_false, false_implies, true_implies, and_true, true_and, Bool.false_eq_true, Bool.true_eq_false, implies_true, Bool.not_not, Classical.not_not, go_sem, Int.reduceToNat, List.take_nil, Nat.zero_mul, Nat.reduceEqDiff, Nat.reduceAdd, Nat.reduceLT, Nat.reduceLeDiff, Nat.reduceMul, ↓reduceIte, reduceCtorEq]
          have e0 : ch0 = (ss0 X AA).ch := by rw [hch0]; rfl
          rw [e0]
          refine impl_simulateS_ (ι := SS) (Hp := fun st => σ ++ TT σ.length j L.length c cc st.ch (mkF X (fun k => rd acs (ao + k)) AA r st) X.length) (N := σ.length + (7 + 3 * X.length)) (srvPick X AA L) (ss0 X AA) (fun q => ?_) (fun _ q => ?_) (fun q => cells_old hj _) hl ?_ (fun st now done => pick_range st now done) (fun c1 c2 => ?_)
          · rw [List.length_append, TT_len]
          · exact Closed.add hC (TT_in hjn fun q hq => hbel q hq)
          · intro k hk τ m hm K hK
            rw [List.append_assoc] at hm hK
            show CallWp Try.prog _ [.p m 0, .p (σ.length + 6) 0, .p σ.length 0, .p (σ.length + 4) 0] _ K
            rw [List.append_assoc]
            refine impl_RunServers_2_ hj hm hl hk (ss_len hok.2.2.1 k).2.1 hx (fun q hq => ?_) (fun h => ?_) (fun q h => ?_)
            · have hs := sv_ok (L := L) (AA := AA) hok.2.1 hq k
              have hd := sv_dl (L := L) (AA := AA) hok.2.1 hq k
              have hAq := hok.2.2.at hq
              refine ⟨hrq q hq, gS_ok hok.2.1 hq, hs, ?_, ?_, by have := hAq.1; show (gAA AA q).length ≤ 1000; omega, (ss_len (L := L) hok.2.2.1 k).2.2 q hq⟩
              · show (svT X AA L k q).dl ≤ 90000
                omega
              · show (svT X AA L k q).done ≤ 1000
                rcases hs.d1 with h | h
                · omega
                · by_cases ha : (svT X AA L k q).at_ < (gAA AA q).length
                  · have := (gA_ok hAq ha).2.2; omega
                  · rw [show gA (gAA AA q) (svT X AA L k q).at_ = default by unfold gA; rw [List.getD_eq_getElem?_getD, List.getElem?_eq_none (by omega)]; rfl] at h
                    change (svT X AA L k q).done < 0 at h
                    omega
            · rw [go_mk] at h
              have e : goT X AA L k = -1 := by
                rcases goT_spec (X := X) (AA := AA) (L := L) k with e | ⟨c, e, _⟩ <;> omega
              have e1 := (st_neg e).2
              have e2 : (srvS X AA L (k + 1)).st.ch = (srvS X AA L k).st.ch := by rw [(st_neg e).1]
              rw [e1, e2, TT_congr (fun q hq => mk_neg e hq)] at hK
              exact hK
            · rw [go_mk] at h
              have e1 := (st_pos h).2
              have e2 : (srvS X AA L (k + 1)).st.ch = (srvS X AA L k).st.ch.set k q := by rw [(st_pos h).1]
              rw [e1, e2, TT_congr (fun p hp => mk_pos hok.2.2.1 h hp)] at hK
              exact hK
          · rw [List.append_assoc]
            have hrun : (sim L (srvPick X AA L) (ss0 X AA) 120).run = srvRun X AA L := rfl
            have hfin : (sim L (srvPick X AA L) (ss0 X AA) 120).fin = srvFin X AA L := rfl
            have hchE : (sim L (srvPick X AA L) (ss0 X AA) 120).st.ch = srvCh X AA L := rfl
            have hl3 := sim_lens (L := L) (pick := srvPick X AA L) (s0 := ss0 X AA) 120
            have hssl := ss_len (L := L) hok.2.2.1 120
            have hsd : ∀ q, q < X.length → ((mkF X (fun k => rd acs (ao + k)) AA r (sim L (srvPick X AA L) (ss0 X AA) 120).st) q).row = Go.Ds.gR (srvSd X AA L) q := fun q _ => rfl
            have hA2 : ∀ q, ((mkF X (fun k => rd acs (ao + k)) AA r (sim L (srvPick X AA L) (ss0 X AA) 120).st) q).A = gAA AA q := fun q => rfl
            rw [hrun, hfin] at hl3
            rw [hchE] at hssl
            have hsdl : (srvSd X AA L).length = X.length := hssl.1
            have hsdr : ∀ q, q < X.length → (Go.Ds.gR (srvSd X AA L) q).length = (gAA AA q).length := hssl.2.2
            rw [hrun, hfin, hchE]
            generalize (sim L (srvPick X AA L) (ss0 X AA) 120).st = st at *
            generalize hF : mkF X (fun k => rd acs (ao + k)) AA r st = F at *
            generalize hQ : TT σ.length j L.length c cc (srvCh X AA L) F X.length ++ [.rw ty_int (encInt.row (srvRun X AA L)) c1, .rw ty_int (encInt.row (srvFin X AA L)) c2] = Q
            have hQ4 : Q[4]? = some (.rw ty_impl_ServerRun [.sn, .sn, .sl (σ.length + 2) 0 120 cc, .sl (σ.length + 3) 0 X.length X.length] 4) := by rw [← hQ]; rfl
            have hQ1 : Q[1]? = some (.rw ty_impl_ServerRun [.sn, .sn, .sn, .sn] 4) := by rw [← hQ]; rfl
            have hQl : Q.length = 7 + 3 * X.length + 2 := by rw [← hQ, List.length_append, TT_len]; rfl
            have hq4 : ∀ B, (Q.set 4 B)[4]? = some B := fun B => List.getElem?_set_self (by omega)
            have hq1 : ∀ B, (Q.set 4 B)[1]? = some (.rw ty_impl_ServerRun [.sn, .sn, .sn, .sn] 4) := fun B => by rw [List.getElem?_set_ne (by decide)]; exact hQ1
            have hq1' : ∀ B B', ((Q.set 4 B).set 1 B')[1]? = some B' := fun B B' => List.getElem?_set_self (by rw [List.length_set]; omega)
            simp only [at_new, set_new, hQ4, hq4, hq1, hq1', not_true_eq_false, not_false_eq_true, decide_true, decide_false, Bool.not_true, Bool.not_false, false_implies, true_implies, and_true, true_and, Bool.false_eq_true, Bool.true_eq_false, implies_true, Bool.not_not, Classical.not_not, go_sem, Int.reduceToNat, List.take_nil, Nat.zero_mul, Nat.reduceEqDiff, Nat.reduceAdd, Nat.reduceLT, Nat.reduceLeDiff, Nat.reduceMul, ↓reduceIte, reduceCtorEq]
            refine Fin.plain (hy hok _ _ ?_)
            intro σ9 _ hs9
            have oth : ∀ B B' q ty cs rr, (∀ n, σ.length ≤ n → σ9[n]? = (σ ++ (Q.set 4 B).set 1 B')[n]?) → q ≠ 4 → q ≠ 1 → Q[q]? = some (.rw ty cs rr) → cellsOf σ9 (σ.length + q) = some cs := fun B B' q ty cs rr hs h4 h1 h => by
              unfold cellsOf
              rw [hs _ (by omega), at_new, List.getElem?_set_ne (fun h => h1 h.symm), List.getElem?_set_ne (fun h => h4 h.symm), h]
            have q2 : Q[2]? = some (.rw ty_int (encInt.row (srvCh X AA L)) cc) := by rw [← hQ]; rfl
            have q3 : Q[3]? = some (.rw ty_sl_int (servC σ.length F X.length) X.length) := by rw [← hQ]; rfl
            have q7 : Q[7 + 3 * X.length]? = some (.rw ty_int (encInt.row (srvRun X AA L)) c1) := by
              rw [← hQ, List.getElem?_append_right (by rw [TT_len]; exact Nat.le_refl _), TT_len, Nat.sub_self]; rfl
            have q8 : Q[7 + 3 * X.length + 1]? = some (.rw ty_int (encInt.row (srvFin X AA L)) c2) := by
              rw [← hQ, List.getElem?_append_right (by rw [TT_len]; omega), TT_len, show 7 + 3 * X.length + 1 - (7 + 3 * X.length) = 1 by omega]; rfl
            refine ⟨_, _, _, _, rfl, Rd.own' (oth _ _ _ _ _ _ hs9 (by omega) (by omega) q7) hl3.2.2, Rd.own' (oth _ _ _ _ _ _ hs9 (by omega) (by omega) q8) hl3.2.1, Rd.own' (oth _ _ _ _ _ _ hs9 (by omega) (by omega) q2) hssl.2.1, .inl ⟨σ.length + 3, 0, X.length, servC σ.length F X.length, by rw [hsdl], oth _ _ _ _ _ _ hs9 (by omega) (by omega) q3, by rw [servC_len, hsdl]; omega, fun q hq => ?_⟩⟩
            have hqX : q < X.length := by omega
            rw [Nat.zero_add, rd_servC hqX, hA2]
            have hrow := hsd q hqX
            have q9 : Q[9 + 3 * q]? = some (rowB (F q)) := by rw [← hQ]; exact TT_row hqX
            have e : (srvSd X AA L)[q] = Go.Ds.gR (srvSd X AA L) q := by simp [Go.Ds.gR, List.getD_eq_getElem?_getD, hq]
            rw [e, ← hrow]
            exact Rd.own' (oth _ _ _ _ _ _ hs9 (by omega) (by omega) q9) (by rw [hrow]; exact hsdr q hqX)
  · exact no fun h => h1 h.1
end Go.Proofs.Ytnlciginmeebhaa
