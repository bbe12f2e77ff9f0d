/- The law FaceAsks, of what the program computes: of one task alone the interface gives not less than it asks for. No condition. -/
import Derived.Test.YtljgloljncokeaaQa17
import Derived.Test.YtljgloljncokeaaMf
import Derived.Test.YtljgloljncokeaaQaOpens
namespace Go.Proofs.Ytljgloljncokeaa.PQa
open Go.RowKit Go.Proofs.YtljgloljncokeaaW.PrintWords Go.Proofs.YtljgloljncokeaaW.PrintLast Go.Proofs.YtljgloljncokeaaW.PrintMore

theorem asks_le {x : S41} {p b : Int} (h : (fitsR [x] p b).1 = true) : x.f0 * p ≤ b * x.f2 := by
  obtain ⟨hok, hf, _, cy, far, e, h1, _, _, ha, _⟩ := fits_parts h
  have hx := okTask_nums ((okAll_parts hok).1 x List.mem_cons_self)
  have hpp := okFace_iff.mp hf
  obtain ⟨⟨u, hu⟩, _, h3⟩ := cycS_facts e
  obtain ⟨⟨v, hv⟩, _⟩ := h3 x List.mem_cons_self
  rw [asked_one] at ha
  have e1 : cy / p = u := by rw [hu]; exact Int.mul_ediv_cancel_left _ (by omega)
  have e2 : cy / x.f2 = v := by rw [hv]; exact Int.mul_ediv_cancel_left _ (by omega)
  rw [e1, e2] at ha
  have h4 : v * x.f0 * (x.f2 * p) ≤ u * b * (x.f2 * p) := Int.mul_le_mul_of_nonneg_right ha (Int.mul_nonneg (by omega) (by omega))
  have h5 : v * x.f0 * (x.f2 * p) = x.f0 * p * cy := by rw [hv]; ac_rfl
  have h6 : u * b * (x.f2 * p) = b * x.f2 * cy := by rw [hu]; ac_rfl
  rw [h5, h6] at h4
  exact Int.le_of_mul_le_mul_right h4 (by omega)
theorem pureFaceAsks : ∀ (x0 : S41) (a1 : Int), ok41 x0 → (Lit.int .i64 a1).wf = true → ∃ k : Nat, remontoirlaw11_FaceAsks.f k x0.f0 x0.f1 x0.f2 x0.f3 a1 = some true := by
  intro x p _ _
  refine Ev.rounds (g := fun k => remontoirlaw11_FaceAsks.f k x.f0 x.f1 x.f2 x.f3 p) ?_
  unfold remontoirlaw11_FaceAsks.f
  simp only [Option.bind_some]
  refine Ev.bind (remontoirlaw05_Great.ev [x] (by simp)) ?_
  by_cases hg : greatS [x] = true
  · simp only [hg, if_true]; exact knows11e
  · have hg' : greatS [x] = false := by simpa using hg
    have hle : face_Least.f [x] p = some (leastS [x] p) := least_ev [x] p (by simp)
    simp only [hg', Bool.false_eq_true, if_false]
    rw [hle]
    simp only [Option.bind_some]
    by_cases h : (leastS [x] p).2.2 = 0
    · obtain ⟨hok, hp1, hp2, b, e, hb1, hb2, hfit, hmin⟩ := leastS_ok h
      have hx := okTask_nums ((okAll_parts hok).1 x List.mem_cons_self)
      have a := asks_le hfit
      have u1 : b * x.f2 ≤ 200 * 200 := Int.mul_le_mul (by omega) (by omega) (by omega) (by omega)
      have u2 : 0 ≤ x.f0 * p := Int.mul_nonneg (by omega) (by omega)
      have w1 : wrap64 (b * x.f2) = b * x.f2 := w64 (by omega)
      have w2 : wrap64 (x.f0 * p) = x.f0 * p := w64 (by omega)
      have g : b * x.f2 ≥ x.f0 * p := a
      simp only [e, w1, w2, g, if_true]
      exact knows11e
    · simp only [h, if_false]
      exact knows11e
end Go.Proofs.Ytljgloljncokeaa.PQa
