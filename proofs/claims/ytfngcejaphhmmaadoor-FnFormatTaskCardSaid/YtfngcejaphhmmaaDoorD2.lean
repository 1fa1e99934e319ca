import Derived.Test.YtfngcejaphhmmaaDoorD1
namespace Go.Proofs.YtfngcejaphhmmaaDoor
open Go.Abs Go.Ds
set_option linter.unusedSimpArgs false
set_option linter.unusedVariables false
set_option maxRecDepth 20000
theorem spec_l20Task_ {σ : List AB} {n m o c : Nat} {B : List Nat} {p : Int} (h : Rdr ty_spec_l20Rd σ n B p m o c) (hC : Code B) (hp : 0 ≤ p ∧ p ≤ 3800000000000) (k : Int) (hk : k ≤ 1000) {K : AV → List AB → Prop}
    (hK : ∀ (t : Task) (p' : Int), p ≤ p' → p' ≤ p + 10 → wildT t → (k ≤ 0 → t.ok) → K (.agg [.i .i64 t.C, .i .i64 t.D, .i .i64 t.P]) (σ.set n (.rw ty_spec_l20Rd [.sl m o B.length c, .i .i64 p'] 2))) : CallWp Tryd.prog n_spec_l20Task [.p n 0, .i .i64 k] σ K := by
  refine call_rdr ty_spec_l20Rd h [] (by simp) (fun _ => [.i .i64 k]) (TaskP k p) (fun _ => spec_l20Task0 B p hC hp k hk c) ?_ (fun _ _ _ => ⟨.inl rfl, trivial⟩) (fun _ => rfl) ?_
  · rintro x p' τ ⟨_, rfl, t, rfl, _⟩; exact ⟨rfl, rfl⟩
  · rintro x p' τ ⟨⟨h1, h2⟩, rfl, t, rfl, h3, h4⟩
    rw [List.append_nil]; exact hK t p' h1 h2 h3 h4
theorem Sl.own {α : Type} {E : Enc α} {σ : List AB} {n q cap : Nat} {L : List α} (h : cellsOf σ q = some (E.row L)) (hq : q ≠ n) : (⟨.sl q 0 L.length cap, L.length, E.row L⟩ : Sl).okx σ n := by
  refine ⟨E.row_flat L, .inl ⟨q, 0, cap, E.row L, rfl, hq, ?_, h, by simp, by simp [Abs.win]⟩⟩
  rcases cellsOf_cases h with hh | ⟨_, _, hh⟩ <;> exact (List.getElem?_eq_some_iff.1 hh).1
end Go.Proofs.YtfngcejaphhmmaaDoor
