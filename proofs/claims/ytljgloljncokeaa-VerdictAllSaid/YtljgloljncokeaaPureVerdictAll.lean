/- The law VerdictAll, of what the program computes: tasks that fit an interface do so for each tick. No condition. -/
import Derived.Test.YtljgloljncokeaaQa7
import Derived.Test.YtljgloljncokeaaMv
import Derived.Test.YtljgloljncokeaaQaOpens
namespace Go.Proofs.Ytljgloljncokeaa.PQa
open Go.RowKit Go.Proofs.YtljgloljncokeaaW.PrintWords Go.Proofs.YtljgloljncokeaaW.PrintLast Go.Proofs.YtljgloljncokeaaW.PrintMore

theorem knows10b : Ev (fun k => (remontoirlaw10_knows.f k).bind fun t => some t) true := Ev.bind knows10 (Ev.now _)
theorem pureVerdictAll : ∀ (z0 : List (S41)) (x1 : S24) (a2 : Int), ((∀ y ∈ z0, ok41 y) ∧ z0.length ≤ 9223372036854775807) → ok24 x1 → (Lit.int .i64 a2).wf = true → ∃ k : Nat, remontoirlaw10_VerdictAll.f k z0 x1.f0 x1.f1 a2 = some true := by
  intro l x t hl _ _
  refine Ev.rounds (g := fun k => remontoirlaw10_VerdictAll.f k l x.f0 x.f1 t) ?_
  have hj : ∀ b, (b = false → 0 ≤ t ∧ t ≤ 1099511627776 ∧ greatS l = false) → Ev (fun k => remontoirlaw10_VerdictAll.j0 k l t b x.f0 x.f1) true := by
    intro b hb
    cases b with
    | true =>
      refine Ev.step (fun k => ?_) knows10b
      simp only [remontoirlaw10_VerdictAll.j0]
      rw [if_pos trivial]
    | false =>
      obtain ⟨h0, h1, hg⟩ := hb rfl
      have hlen := greatS_len hg
      refine Ev.step (fun k => ?_) (Ev.bind (verdict_Fits.ev l x.f0 x.f1 (by omega)) (f := fun k bt => if bt.1 = true then ((verdict_Need.f k l t).bind fun bt2 => ((supply_Bound.f k x.f0 x.f1 t).bind fun bt3 => (if bt.2 = 0 then (if bt2.2 = 0 then (if bt3.2 = 0 then (if bt2.1 ≤ bt3.1 then ((remontoirlaw10_knows.f k).bind fun t201 => (some t201)) else (some false)) else (some false)) else (some false)) else (some false)))) else (if bt.2 = 0 then ((remontoirlaw10_knows.f k).bind fun t202 => (some t202)) else (if bt.2 = 1 then ((remontoirlaw10_knows.f k).bind fun t203 => (some t203)) else (if bt.2 = 5 then ((remontoirlaw10_knows.f k).bind fun t204 => (some t204)) else (some false))))) ?_)
      · simp only [remontoirlaw10_VerdictAll.j0]
        rw [if_neg (by simp)]
      · by_cases hf : (fitsR l x.f0 x.f1).1 = true
        · obtain ⟨hok, hface, he, _⟩ := fits_parts hf
          have hle := fits_all hf t h0
          have hN : Ev (fun k => verdict_Need.f k l t) (need l t, 0) := ⟨3, fun k hk => by obtain ⟨m, rfl⟩ : ∃ m, k = m + 3 := ⟨k - 3, by omega⟩; exact verdict_Need.ev m l t hok ⟨h0, by omega⟩⟩
          have hS : Ev (fun k => supply_Bound.f k x.f0 x.f1 t) (sbf x.f0 x.f1 t, 0) := ⟨1, fun k hk => by obtain ⟨m, rfl⟩ : ∃ m, k = m + 1 := ⟨k - 1, by omega⟩; exact supply_Bound.ev m _ _ t hface ⟨h0, by omega⟩⟩
          simp only [hf, if_true]
          refine Ev.bind hN (Ev.bind hS ?_)
          simp only [he, if_true]
          simp only [hle, if_true]
          exact knows10b
        · have hf' : (fitsR l x.f0 x.f1).1 = false := by simpa using hf
          simp only [hf']
          rcases fitsR_err l x.f0 x.f1 with h | h | h
          · simp only [h]; exact knows10b
          · simp only [h]; exact knows10b
          · simp only [h]; exact knows10b
  refine Ev.congr (fun k => rfl) (Ev.bind (remontoirlaw05_Great.ev l hl.2) (f := fun k b => if b = true then remontoirlaw10_VerdictAll.j0 k l t true x.f0 x.f1 else (if t < 0 then remontoirlaw10_VerdictAll.j0 k l t true x.f0 x.f1 else remontoirlaw10_VerdictAll.j0 k l t (decide (t > 1099511627776)) x.f0 x.f1)) ?_)
  by_cases hg : greatS l = true
  · simp only [hg, if_true]; exact hj true (fun h => by cases h)
  · have hg' : greatS l = false := by simpa using hg
    simp only [hg']
    by_cases h0 : t < 0
    · simp only [h0, if_true]; exact hj true (fun h => by cases h)
    · simp only [h0, if_false]
      refine hj _ (fun h => ?_)
      rw [decide_eq_false_iff_not] at h
      exact ⟨by omega, by omega, hg'⟩
end Go.Proofs.Ytljgloljncokeaa.PQa
