/- The law FaceLeast, of what the program computes: the least interface of a period is what the document says, or the error is told. No condition. -/
import Derived.Test.YtljgloljncokeaaQa15
import Derived.Test.YtljgloljncokeaaRf
import Derived.Test.YtljgloljncokeaaQaOpens
namespace Go.Proofs.Ytljgloljncokeaa.PQa
open Go.RowKit Go.Proofs.YtljgloljncokeaaW.PrintWords Go.Proofs.YtljgloljncokeaaW.PrintLast Go.Proofs.YtljgloljncokeaaW.PrintMore
theorem great_ev {l : List (S41)} {p : Int} (hl : l.length ≤ 9223372036854775807) : ∃ q, Ev (fun k => remontoirlaw11_great.f k l p) q ∧ (q = false → l.length ≤ 20) := by
  unfold remontoirlaw11_great.f
  by_cases hg : greatS l = true
  · refine ⟨true, Ev.bind (remontoirlaw05_Great.ev l hl) ?_, fun h => by simp at h⟩
    simp only [hg, if_true]
    refine Ev.step (f := fun _ => some true) (fun k => ?_) (Ev.now _)
    simp only [remontoirlaw11_great.j0, if_true]
  · have hg' : greatS l = false := by simpa using hg
    have hlen := greatS_len hg'
    have hj : ∃ q, Ev (fun k => remontoirlaw11_great.j0 k l p false) q := by
      by_cases h1 : p < 1
      · refine ⟨false, Ev.step (f := fun _ => some false) (fun k => ?_) (Ev.now _)⟩
        simp only [remontoirlaw11_great.j0, Bool.false_eq_true, if_false, h1, if_true]
      · by_cases h2 : p > 200
        · refine ⟨false, Ev.step (f := fun _ => some false) (fun k => ?_) (Ev.now _)⟩
          simp only [remontoirlaw11_great.j0, Bool.false_eq_true, if_false, h1, h2, if_true]
        · refine ⟨decide ((cycF l p 1).2.1 > 250), Ev.step (f := fun k => (remontoirref10_Cycle.f k l p 1).bind fun bt => some (decide (bt.2.1 > 250))) (fun k => ?_) (Ev.bind (remontoirref10_Cycle.ev l p 1 (by omega)) (Ev.now _))⟩
          simp only [remontoirlaw11_great.j0, Bool.false_eq_true, if_false, h1, h2]
    obtain ⟨q, hq⟩ := hj
    by_cases h2 : p > 200
    · by_cases h4 : p ≤ 400
      · refine ⟨true, Ev.bind (remontoirlaw05_Great.ev l hl) ?_, fun _ => hlen⟩
        simp only [hg', Bool.false_eq_true, if_false, h2, if_true, decide_eq_true h4]
        refine Ev.step (f := fun _ => some true) (fun k => ?_) (Ev.now _)
        simp only [remontoirlaw11_great.j0, if_true]
      · refine ⟨q, Ev.bind (remontoirlaw05_Great.ev l hl) ?_, fun _ => hlen⟩
        simp only [hg', Bool.false_eq_true, if_false, h2, if_true, decide_eq_false h4]
        exact hq
    · refine ⟨q, Ev.bind (remontoirlaw05_Great.ev l hl) ?_, fun _ => hlen⟩
      simp only [hg', Bool.false_eq_true, if_false, h2]
      exact hq
theorem pureFaceLeast : ∀ (z0 : List (S41)) (a1 : Int), ((∀ y ∈ z0, ok41 y) ∧ z0.length ≤ 9223372036854775807) → (Lit.int .i64 a1).wf = true → ∃ k : Nat, remontoirlaw11_FaceLeast.f k z0 a1 = some true := by
  intro l p hl _
  refine Ev.rounds (g := fun k => remontoirlaw11_FaceLeast.f k l p) ?_
  unfold remontoirlaw11_FaceLeast.f
  obtain ⟨q, hq, hlen⟩ := great_ev (l := l) (p := p) hl.2
  refine Ev.bind hq ?_
  cases q with
  | true => simp only [if_true]; exact knows11e
  | false =>
    have hlen := hlen rfl
    simp only [Bool.false_eq_true, if_false, least_ev l p (by omega), Option.bind_some]
    refine Ev.bind (rleast_ev (l := l) (p := p) (by omega)) ?_
    by_cases h : (leastS l p).2.2 = 0
    · obtain ⟨_, _, _, b, e, _⟩ := leastS_ok h
      simp only [e, beq_self_eq_true, Bool.and_self, if_true]
      exact knows11e
    · have e := leastS_no h
      have e1 : (leastS l p).1 = 0 := by rw [e]
      have e2 : (leastS l p).2.1 = 0 := by rw [e]
      simp only [h, if_false, e1, e2, beq_self_eq_true, Bool.and_self, if_true]
      exact knows11e
end Go.Proofs.Ytljgloljncokeaa.PQa
