/- The law FnExactJitterResponse answers true: over the abstract heap. -/
import Derived.Test.YtklidlannicomaaC2
import Derived.Test.YtklidlannicomaaC6
import Derived.Test.YtklidlannicomaaC7
namespace Go.Proofs.Ytklidlannicomaa
open Go.Abs Go.Ds
set_option linter.unusedSimpArgs false
set_option linter.unusedVariables false
set_option maxRecDepth 20000

theorem Rd.len {α : Type} {E : Enc α} {σ : List AB} {n len cap : Nat} {L : List α} (h : cellsOf σ n = some (E.row L)) (hl : L.length = len) : Rd E σ (.sl n 0 len cap) L := by subst hl; exact Rd.own h

theorem markIntS_len {L : List Int} {k : Int} {len : Nat} (hl : L.length = len) (hs : len ≤ 1099511627776) (hk : 0 ≤ k ∧ k ≤ 1099511627776) {σ : List AB} {n c r : Nat} (h : σ[n]? = some (.rw ty_int (encInt.row L) r)) {K : AV → List AB → Prop} (hK : K (.i .i64 (k + len)) (σ.set n (.rw ty_int (encInt.row (marked k L len)) r))) :
    CallWp Try.prog n_laws_markIntS [.sl n 0 len c, .i .i64 k] σ K := by subst hl; exact laws_markIntS_ hs hk h hK

theorem laws_FnExactJitterResponse0 (S : List Task) (J O : List Int) (hS : S.length ≤ 4611686018427387904) (c c' c3 : Nat) : CallWp Try.prog n_laws_FnExactJitterResponse [.sl 0 0 S.length c, .sl 1 0 J.length c', .sl 2 0 O.length c3] [.ro (encTask.row S), .ro (encInt.row J), .ro (encInt.row O)] (fun x _ => x = .b true) := by
  refine call_laws_FnExactJitterResponse (by simp) ?_
  simp only [c_laws_FnExactJitterResponse, go_sem, Int.reduceToNat, List.take_nil, Nat.zero_mul, Nat.reduceEqDiff, Nat.reduceAdd, Nat.reduceLT, Nat.reduceLeDiff, Nat.reduceMul, ↓reduceIte, reduceCtorEq]
  refine ⟨fun h => Fin.plain rfl, fun h => ⟨fun h' => Fin.plain rfl, fun h' => ?_⟩⟩
  refine laws_szTaskS_ hS (by omega) (Rd.own rfl) ?_
  simp only [go_sem, Int.reduceToNat, List.take_nil, Nat.zero_mul, Nat.reduceEqDiff, Nat.reduceAdd, Nat.reduceLT, Nat.reduceLeDiff, Nat.reduceMul, ↓reduceIte, reduceCtorEq]
  refine ⟨fun h1 => Fin.plain rfl, fun h1 => ?_⟩
  have hl : S.length ≤ 1048576 := by split at h1 <;> omega
  refine laws_toTaskS_ (by omega) (Rd.own rfl) fun c1 => ?_
  simp only [go_sem, Int.reduceToNat, List.take_nil, Nat.zero_mul, Nat.reduceEqDiff, Nat.reduceAdd, Nat.reduceLT, Nat.reduceLeDiff, Nat.reduceMul, ↓reduceIte, reduceCtorEq]
  refine laws_toIntS_ (by omega) (Rd.own rfl) fun c2 => ?_
  simp only [go_sem, Int.reduceToNat, List.take_nil, Nat.zero_mul, Nat.reduceEqDiff, Nat.reduceAdd, Nat.reduceLT, Nat.reduceLeDiff, Nat.reduceMul, ↓reduceIte, reduceCtorEq]
  refine laws_toIntS_ (by omega) (Rd.own rfl) fun c3 => ?_
  simp only [go_sem, Int.reduceToNat, List.take_nil, Nat.zero_mul, Nat.reduceEqDiff, Nat.reduceAdd, Nat.reduceLT, Nat.reduceLeDiff, Nat.reduceMul, ↓reduceIte, reduceCtorEq]
  refine spec_JitterResponse_ (by omega) (by omega) (by omega) (Rd.own rfl) (Rd.own rfl) (Rd.own rfl) (fun hno d1 => ?_) (fun hJ hO d1 => ?_)
  · have held : ∀ {σ : List AB} {k : Int} {K : AV → List AB → Prop}, 0 < σ.length → 0 ≤ k ∧ k ≤ 1099511627776 → K (.i .i64 k) σ → CallWp Try.prog n_laws_heldIntS [.sn, .i .i64 k] σ K := by
      intro σ k K h0 hk hK
      refine laws_heldIntS_ (L := []) (by simp) hk (fun j h => by simp at h) (.inr ⟨rfl, rfl, h0⟩) ?_
      simpa using hK
    simp only [go_sem, Int.reduceToNat, List.take_nil, Nat.zero_mul, Nat.reduceEqDiff, Nat.reduceAdd, Nat.reduceLT, Nat.reduceLeDiff, Nat.reduceMul, ↓reduceIte, reduceCtorEq]
    refine laws_toTaskS_ (by omega) (Rd.own rfl) fun c4 => ?_
    simp only [go_sem, Int.reduceToNat, List.take_nil, Nat.zero_mul, Nat.reduceEqDiff, Nat.reduceAdd, Nat.reduceLT, Nat.reduceLeDiff, Nat.reduceMul, ↓reduceIte, reduceCtorEq]
    refine laws_toIntS_ (by omega) (Rd.own rfl) fun c5 => ?_
    simp only [go_sem, Int.reduceToNat, List.take_nil, Nat.zero_mul, Nat.reduceEqDiff, Nat.reduceAdd, Nat.reduceLT, Nat.reduceLeDiff, Nat.reduceMul, ↓reduceIte, reduceCtorEq]
    refine laws_toIntS_ (by omega) (Rd.own rfl) fun c6 => ?_
    simp only [go_sem, Int.reduceToNat, List.take_nil, Nat.zero_mul, Nat.reduceEqDiff, Nat.reduceAdd, Nat.reduceLT, Nat.reduceLeDiff, Nat.reduceMul, ↓reduceIte, reduceCtorEq]
    refine impl_JitterResponse_ (by omega) (by omega) (by omega) (Rd.own rfl) (Rd.own rfl) (Rd.own rfl) (fun _ => ?_) (fun hJ hO => absurd ⟨hJ, hO⟩ hno)
    simp only [go_sem, Int.reduceToNat, List.take_nil, Nat.zero_mul, Nat.reduceEqDiff, Nat.reduceAdd, Nat.reduceLT, Nat.reduceLeDiff, Nat.reduceMul, ↓reduceIte, reduceCtorEq]
    refine laws_eqIntS_ (L := []) (M := []) (by simp) (.inr ⟨rfl, rfl, by simp⟩) (Rd.len rfl rfl) ?_
    simp only [go_sem, Int.reduceToNat, List.take_nil, Nat.zero_mul, Nat.reduceEqDiff, Nat.reduceAdd, Nat.reduceLT, Nat.reduceLeDiff, Nat.reduceMul, ↓reduceIte, reduceCtorEq]
    refine laws_toTaskS_ (by omega) (Rd.own rfl) fun c7 => ?_
    simp only [go_sem, Int.reduceToNat, List.take_nil, Nat.zero_mul, Nat.reduceEqDiff, Nat.reduceAdd, Nat.reduceLT, Nat.reduceLeDiff, Nat.reduceMul, ↓reduceIte, reduceCtorEq]
    refine laws_eqTaskS_ (by omega) (Rd.own rfl) (Rd.own rfl) ?_
    simp only [go_sem, Int.reduceToNat, List.take_nil, Nat.zero_mul, Nat.reduceEqDiff, Nat.reduceAdd, Nat.reduceLT, Nat.reduceLeDiff, Nat.reduceMul, ↓reduceIte, reduceCtorEq]
    refine laws_toIntS_ (by omega) (Rd.own rfl) fun c8 => ?_
    simp only [go_sem, Int.reduceToNat, List.take_nil, Nat.zero_mul, Nat.reduceEqDiff, Nat.reduceAdd, Nat.reduceLT, Nat.reduceLeDiff, Nat.reduceMul, ↓reduceIte, reduceCtorEq]
    refine laws_eqIntS_ (by omega) (Rd.own rfl) (Rd.own rfl) ?_
    simp only [go_sem, Int.reduceToNat, List.take_nil, Nat.zero_mul, Nat.reduceEqDiff, Nat.reduceAdd, Nat.reduceLT, Nat.reduceLeDiff, Nat.reduceMul, ↓reduceIte, reduceCtorEq]
    refine laws_toIntS_ (by omega) (Rd.own rfl) fun c9 => ?_
    simp only [go_sem, Int.reduceToNat, List.take_nil, Nat.zero_mul, Nat.reduceEqDiff, Nat.reduceAdd, Nat.reduceLT, Nat.reduceLeDiff, Nat.reduceMul, ↓reduceIte, reduceCtorEq]
    refine laws_eqIntS_ (by omega) (Rd.own rfl) (Rd.own rfl) ?_
    simp only [go_sem, Int.reduceToNat, List.take_nil, Nat.zero_mul, Nat.reduceEqDiff, Nat.reduceAdd, Nat.reduceLT, Nat.reduceLeDiff, Nat.reduceMul, ↓reduceIte, reduceCtorEq]
    refine laws_markTaskS_ (by omega) (by omega) rfl ?_
    simp only [go_sem, Int.reduceToNat, List.take_nil, Nat.zero_mul, Nat.reduceEqDiff, Nat.reduceAdd, Nat.reduceLT, Nat.reduceLeDiff, Nat.reduceMul, ↓reduceIte, reduceCtorEq]
    refine laws_markIntS_ (by omega) (by omega) rfl ?_
    simp only [go_sem, Int.reduceToNat, List.take_nil, Nat.zero_mul, Nat.reduceEqDiff, Nat.reduceAdd, Nat.reduceLT, Nat.reduceLeDiff, Nat.reduceMul, ↓reduceIte, reduceCtorEq]
    refine laws_markIntS_ (by omega) (by omega) rfl ?_
    simp only [go_sem, Int.reduceToNat, List.take_nil, Nat.zero_mul, Nat.reduceEqDiff, Nat.reduceAdd, Nat.reduceLT, Nat.reduceLeDiff, Nat.reduceMul, ↓reduceIte, reduceCtorEq]
    refine ⟨fun _ => ?_, fun hbad => absurd hbad (by omega)⟩
    refine laws_eqIntS_ (L := []) (M := []) (by simp) (.inr ⟨rfl, rfl, by simp⟩) (Rd.len rfl rfl) ?_
    simp only [go_sem, Int.reduceToNat, List.take_nil, Nat.zero_mul, Nat.reduceEqDiff, Nat.reduceAdd, Nat.reduceLT, Nat.reduceLeDiff, Nat.reduceMul, ↓reduceIte, reduceCtorEq]
    refine laws_markIntS_nil ?_
    simp only [go_sem, Int.reduceToNat, List.take_nil, Nat.zero_mul, Nat.reduceEqDiff, Nat.reduceAdd, Nat.reduceLT, Nat.reduceLeDiff, Nat.reduceMul, ↓reduceIte, reduceCtorEq]
    refine held (by simp) (by omega) ?_
    simp only [go_sem, Int.reduceToNat, List.take_nil, Nat.zero_mul, Nat.reduceEqDiff, Nat.reduceAdd, Nat.reduceLT, Nat.reduceLeDiff, Nat.reduceMul, ↓reduceIte, reduceCtorEq]
    refine ⟨fun hbad => absurd hbad (by omega), fun _ => ?_⟩
    refine laws_toTaskS_ (by omega) (Rd.own rfl) fun e1 => ?_
    simp only [go_sem, Int.reduceToNat, List.take_nil, Nat.zero_mul, Nat.reduceEqDiff, Nat.reduceAdd, Nat.reduceLT, Nat.reduceLeDiff, Nat.reduceMul, ↓reduceIte, reduceCtorEq]
    refine laws_toIntS_ (by omega) (Rd.own rfl) fun e2 => ?_
    simp only [go_sem, Int.reduceToNat, List.take_nil, Nat.zero_mul, Nat.reduceEqDiff, Nat.reduceAdd, Nat.reduceLT, Nat.reduceLeDiff, Nat.reduceMul, ↓reduceIte, reduceCtorEq]
    refine laws_toIntS_ (by omega) (Rd.own rfl) fun e3 => ?_
    simp only [go_sem, Int.reduceToNat, List.take_nil, Nat.zero_mul, Nat.reduceEqDiff, Nat.reduceAdd, Nat.reduceLT, Nat.reduceLeDiff, Nat.reduceMul, ↓reduceIte, reduceCtorEq]
    refine impl_JitterResponse_ (by omega) (by omega) (by omega) (Rd.own rfl) (Rd.own rfl) (Rd.own rfl) (fun _ => ?_) (fun hJ hO => absurd ⟨hJ, hO⟩ hno)
    simp only [go_sem, Int.reduceToNat, List.take_nil, Nat.zero_mul, Nat.reduceEqDiff, Nat.reduceAdd, Nat.reduceLT, Nat.reduceLeDiff, Nat.reduceMul, ↓reduceIte, reduceCtorEq]
    refine laws_eqIntS_ (L := []) (M := []) (by simp) (.inr ⟨rfl, rfl, by simp⟩) (Rd.len rfl rfl) ?_
    simp only [go_sem, Int.reduceToNat, List.take_nil, Nat.zero_mul, Nat.reduceEqDiff, Nat.reduceAdd, Nat.reduceLT, Nat.reduceLeDiff, Nat.reduceMul, ↓reduceIte, reduceCtorEq]
    refine held (by simp) (by omega) ?_
    simp only [go_sem, Int.reduceToNat, List.take_nil, Nat.zero_mul, Nat.reduceEqDiff, Nat.reduceAdd, Nat.reduceLT, Nat.reduceLeDiff, Nat.reduceMul, ↓reduceIte, reduceCtorEq]
    exact ⟨fun hbad => absurd hbad (by omega), fun _ => Fin.plain rfl⟩
  · have hR := resps_length S J O O.length
    simp only [go_sem, Int.reduceToNat, List.take_nil, Nat.zero_mul, Nat.reduceEqDiff, Nat.reduceAdd, Nat.reduceLT, Nat.reduceLeDiff, Nat.reduceMul, ↓reduceIte, reduceCtorEq]
    refine laws_toTaskS_ (by omega) (Rd.own rfl) fun c4 => ?_
    simp only [go_sem, Int.reduceToNat, List.take_nil, Nat.zero_mul, Nat.reduceEqDiff, Nat.reduceAdd, Nat.reduceLT, Nat.reduceLeDiff, Nat.reduceMul, ↓reduceIte, reduceCtorEq]
    refine laws_toIntS_ (by omega) (Rd.own rfl) fun c5 => ?_
    simp only [go_sem, Int.reduceToNat, List.take_nil, Nat.zero_mul, Nat.reduceEqDiff, Nat.reduceAdd, Nat.reduceLT, Nat.reduceLeDiff, Nat.reduceMul, ↓reduceIte, reduceCtorEq]
    refine laws_toIntS_ (by omega) (Rd.own rfl) fun c6 => ?_
    simp only [go_sem, Int.reduceToNat, List.take_nil, Nat.zero_mul, Nat.reduceEqDiff, Nat.reduceAdd, Nat.reduceLT, Nat.reduceLeDiff, Nat.reduceMul, ↓reduceIte, reduceCtorEq]
    refine impl_JitterResponse_ (by omega) (by omega) (by omega) (Rd.own rfl) (Rd.own rfl) (Rd.own rfl) (fun hno => absurd ⟨hJ, hO⟩ hno) (fun _ _ d2 => ?_)
    simp only [go_sem, Int.reduceToNat, List.take_nil, Nat.zero_mul, Nat.reduceEqDiff, Nat.reduceAdd, Nat.reduceLT, Nat.reduceLeDiff, Nat.reduceMul, ↓reduceIte, reduceCtorEq]
    refine laws_eqIntS_ (by omega) (Rd.len rfl hR) (Rd.len rfl hR) ?_
    simp only [go_sem, Int.reduceToNat, List.take_nil, Nat.zero_mul, Nat.reduceEqDiff, Nat.reduceAdd, Nat.reduceLT, Nat.reduceLeDiff, Nat.reduceMul, ↓reduceIte, reduceCtorEq]
    refine laws_toTaskS_ (by omega) (Rd.own rfl) fun c7 => ?_
    simp only [go_sem, Int.reduceToNat, List.take_nil, Nat.zero_mul, Nat.reduceEqDiff, Nat.reduceAdd, Nat.reduceLT, Nat.reduceLeDiff, Nat.reduceMul, ↓reduceIte, reduceCtorEq]
    refine laws_eqTaskS_ (by omega) (Rd.own rfl) (Rd.own rfl) ?_
    simp only [go_sem, Int.reduceToNat, List.take_nil, Nat.zero_mul, Nat.reduceEqDiff, Nat.reduceAdd, Nat.reduceLT, Nat.reduceLeDiff, Nat.reduceMul, ↓reduceIte, reduceCtorEq]
    refine laws_toIntS_ (by omega) (Rd.own rfl) fun c8 => ?_
    simp only [go_sem, Int.reduceToNat, List.take_nil, Nat.zero_mul, Nat.reduceEqDiff, Nat.reduceAdd, Nat.reduceLT, Nat.reduceLeDiff, Nat.reduceMul, ↓reduceIte, reduceCtorEq]
    refine laws_eqIntS_ (by omega) (Rd.own rfl) (Rd.own rfl) ?_
    simp only [go_sem, Int.reduceToNat, List.take_nil, Nat.zero_mul, Nat.reduceEqDiff, Nat.reduceAdd, Nat.reduceLT, Nat.reduceLeDiff, Nat.reduceMul, ↓reduceIte, reduceCtorEq]
    refine laws_toIntS_ (by omega) (Rd.own rfl) fun c9 => ?_
    simp only [go_sem, Int.reduceToNat, List.take_nil, Nat.zero_mul, Nat.reduceEqDiff, Nat.reduceAdd, Nat.reduceLT, Nat.reduceLeDiff, Nat.reduceMul, ↓reduceIte, reduceCtorEq]
    refine laws_eqIntS_ (by omega) (Rd.own rfl) (Rd.own rfl) ?_
    simp only [go_sem, Int.reduceToNat, List.take_nil, Nat.zero_mul, Nat.reduceEqDiff, Nat.reduceAdd, Nat.reduceLT, Nat.reduceLeDiff, Nat.reduceMul, ↓reduceIte, reduceCtorEq]
    refine laws_markTaskS_ (by omega) (by omega) rfl ?_
    simp only [go_sem, Int.reduceToNat, List.take_nil, Nat.zero_mul, Nat.reduceEqDiff, Nat.reduceAdd, Nat.reduceLT, Nat.reduceLeDiff, Nat.reduceMul, ↓reduceIte, reduceCtorEq]
    refine laws_markIntS_ (by omega) (by omega) rfl ?_
    simp only [go_sem, Int.reduceToNat, List.take_nil, Nat.zero_mul, Nat.reduceEqDiff, Nat.reduceAdd, Nat.reduceLT, Nat.reduceLeDiff, Nat.reduceMul, ↓reduceIte, reduceCtorEq]
    refine laws_markIntS_ (by omega) (by omega) rfl ?_
    simp only [go_sem, Int.reduceToNat, List.take_nil, Nat.zero_mul, Nat.reduceEqDiff, Nat.reduceAdd, Nat.reduceLT, Nat.reduceLeDiff, Nat.reduceMul, ↓reduceIte, reduceCtorEq]
    refine ⟨fun _ => ?_, fun hbad => absurd hbad (by omega)⟩
    refine laws_eqIntS_ (by omega) (Rd.len rfl hR) (Rd.len rfl hR) ?_
    simp only [go_sem, Int.reduceToNat, List.take_nil, Nat.zero_mul, Nat.reduceEqDiff, Nat.reduceAdd, Nat.reduceLT, Nat.reduceLeDiff, Nat.reduceMul, ↓reduceIte, reduceCtorEq]
    refine markIntS_len hR (by omega) (by omega) rfl ?_
    simp only [go_sem, Int.reduceToNat, List.take_nil, Nat.zero_mul, Nat.reduceEqDiff, Nat.reduceAdd, Nat.reduceLT, Nat.reduceLeDiff, Nat.reduceMul, ↓reduceIte, reduceCtorEq]
    have hrun := isRun_marked 1 (resps S J O O.length)
    rw [hR] at hrun
    have hM : (marked 1 (resps S J O O.length) S.length).length = S.length := by rw [marked_length _ _ _ (by omega), hR]
    have held : ∀ {σ : List AB} {n d : Nat} {K : AV → List AB → Prop}, cellsOf σ n = some (encInt.row (marked 1 (resps S J O O.length) S.length)) → K (.i .i64 (1 + (S.length : Int))) σ → CallWp Try.prog n_laws_heldIntS [.sl n 0 S.length d, .i .i64 1] σ K := by
      intro σ n d K h hK
      refine laws_heldIntS_ (L := marked 1 (resps S J O O.length) S.length) (by omega) (by omega) hrun (Rd.len h hM) ?_
      rw [hM]; exact hK
    refine held rfl ?_
    simp only [go_sem, Int.reduceToNat, List.take_nil, Nat.zero_mul, Nat.reduceEqDiff, Nat.reduceAdd, Nat.reduceLT, Nat.reduceLeDiff, Nat.reduceMul, ↓reduceIte, reduceCtorEq]
    refine ⟨fun hbad => absurd hbad (by omega), fun _ => ?_⟩
    refine laws_toTaskS_ (by omega) (Rd.own rfl) fun e1 => ?_
    simp only [go_sem, Int.reduceToNat, List.take_nil, Nat.zero_mul, Nat.reduceEqDiff, Nat.reduceAdd, Nat.reduceLT, Nat.reduceLeDiff, Nat.reduceMul, ↓reduceIte, reduceCtorEq]
    refine laws_toIntS_ (by omega) (Rd.own rfl) fun e2 => ?_
    simp only [go_sem, Int.reduceToNat, List.take_nil, Nat.zero_mul, Nat.reduceEqDiff, Nat.reduceAdd, Nat.reduceLT, Nat.reduceLeDiff, Nat.reduceMul, ↓reduceIte, reduceCtorEq]
    refine laws_toIntS_ (by omega) (Rd.own rfl) fun e3 => ?_
    simp only [go_sem, Int.reduceToNat, List.take_nil, Nat.zero_mul, Nat.reduceEqDiff, Nat.reduceAdd, Nat.reduceLT, Nat.reduceLeDiff, Nat.reduceMul, ↓reduceIte, reduceCtorEq]
    refine impl_JitterResponse_ (by omega) (by omega) (by omega) (Rd.own rfl) (Rd.own rfl) (Rd.own rfl) (fun hno => absurd ⟨hJ, hO⟩ hno) (fun _ _ d3 => ?_)
    simp only [go_sem, Int.reduceToNat, List.take_nil, Nat.zero_mul, Nat.reduceEqDiff, Nat.reduceAdd, Nat.reduceLT, Nat.reduceLeDiff, Nat.reduceMul, ↓reduceIte, reduceCtorEq]
    refine laws_eqIntS_ (by omega) (Rd.len rfl hR) (Rd.len rfl hR) ?_
    simp only [go_sem, Int.reduceToNat, List.take_nil, Nat.zero_mul, Nat.reduceEqDiff, Nat.reduceAdd, Nat.reduceLT, Nat.reduceLeDiff, Nat.reduceMul, ↓reduceIte, reduceCtorEq]
    refine held rfl ?_
    simp only [go_sem, Int.reduceToNat, List.take_nil, Nat.zero_mul, Nat.reduceEqDiff, Nat.reduceAdd, Nat.reduceLT, Nat.reduceLeDiff, Nat.reduceMul, ↓reduceIte, reduceCtorEq]
    exact ⟨fun hbad => absurd hbad (by omega), fun _ => Fin.plain rfl⟩

theorem c_FnExactJitterResponse (S : List Task) (c : Nat) (J : List Int) (c' : Nat) (O : List Int) (c3 : Nat) (_ : ∀ x ∈ S, True) (y : S.length * 24 ≤ 140737488351232) (_ : S.length ≤ c) (_ : ∀ x ∈ J, fits .i64 x) (_ : J.length * 8 ≤ 140737488351232) (_ : J.length ≤ c')
    (_ : ∀ x ∈ O, fits .i64 x) (_ : O.length * 8 ≤ 140737488351232) (_ : O.length ≤ c3) :
    CallWp Try.prog n_laws_FnExactJitterResponse [.sl 0 0 S.length c, .sl 1 0 J.length c', .sl 2 0 O.length c3] [.ro (encTask.row S), .ro (encInt.row J), .ro (encInt.row O)] (fun x _ => x = .b true) := laws_FnExactJitterResponse0 S J O (by omega) c c' c3
end Go.Proofs.Ytklidlannicomaa
