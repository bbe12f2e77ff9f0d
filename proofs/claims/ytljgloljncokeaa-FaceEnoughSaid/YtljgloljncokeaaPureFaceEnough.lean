/- The law FaceEnough, of what the program computes: the least interface is enough; with a tick less it is not; and with any more it is. No condition. -/
import Derived.Test.YtljgloljncokeaaQa16
import Derived.Test.YtljgloljncokeaaMf
import Derived.Test.YtljgloljncokeaaQaOpens
namespace Go.Proofs.Ytljgloljncokeaa.PQa
open Go.RowKit Go.Proofs.YtljgloljncokeaaW.PrintWords Go.Proofs.YtljgloljncokeaaW.PrintLast Go.Proofs.YtljgloljncokeaaW.PrintMore

theorem u8_bd {m : Int} (h : (Lit.int .u8 m).wf = true) : 0 ≤ m ∧ m ≤ 255 := by
  simp only [Lit.wf, Bool.and_eq_true, decide_eq_true_eq] at h
  have e1 : IntKind.min .u8 = 0 := by rfl
  have e2 : IntKind.max .u8 = 255 := by rfl
  rw [e1, e2] at h
  exact h
theorem pureFaceEnough : ∀ (z0 : List (S41)) (a1 : Int) (a2 : Int), ((∀ y ∈ z0, ok41 y) ∧ z0.length ≤ 9223372036854775807) → (Lit.int .i64 a1).wf = true → (Lit.int .u8 a2).wf = true → ∃ k : Nat, remontoirlaw11_FaceEnough.f k z0 a1 a2 = some true := by
  intro l p m hl _ hm
  have hm8 := u8_bd hm
  refine Ev.rounds (g := fun k => remontoirlaw11_FaceEnough.f k l p m) ?_
  unfold remontoirlaw11_FaceEnough.f
  refine Ev.bind (remontoirlaw05_Great.ev l hl.2) ?_
  by_cases hg : greatS l = true
  · simp only [hg, if_true]; exact knows11e
  · have hg' : greatS l = false := by simpa using hg
    have hlen := greatS_len hg'
    simp only [hg', Bool.false_eq_true, if_false, least_ev l p (by omega), Option.bind_some]
    by_cases h : (leastS l p).2.2 = 0
    · obtain ⟨hok, hp1, hp2, b, e, hb1, hb2, hfit, hmin⟩ := leastS_ok h
      simp only [e, if_true]
      have w1 : wrap64 (p - b) = p - b := w64 (by omega)
      have w2 : wrap64 (p - b + 1) = p - b + 1 := w64 (by omega)
      have w3 : wrap64 (b - 1) = b - 1 := w64 (by omega)
      have w4 : wrap64 m = m := w64 (by omega)
      obtain ⟨q, hq⟩ : ∃ q, Int.tmod m (p - b + 1) = q := ⟨_, rfl⟩
      have q0 : 0 ≤ q := by rw [← hq]; exact Int.tmod_nonneg _ (by omega)
      have q1 : q < p - b + 1 := by rw [← hq]; exact Int.tmod_lt_of_pos _ (by omega)
      have w5 : wrap64 (b + q) = b + q := w64 (by omega)
      have hne : ¬ (p - b + 1 = 0) := by omega
      simp only [w1, w2, w3, w4, hq, w5, hne, if_false]
      refine Ev.bind (verdict_Fits.ev l p b (by omega)) (Ev.bind (verdict_Fits.ev l p (b - 1) (by omega)) (Ev.bind (verdict_Fits.ev l p (b + q) (by omega)) ?_))
      have f1 : fitsR l p b = (true, 0) := Prod.ext hfit (fits_parts hfit).2.2.1
      have f2 : fitsR l p (b + q) = (true, 0) := fits_greater hfit (by omega) (by omega)
      have g1 : ¬ (b < 1) := by omega
      have g2 : ¬ (b > p) := by omega
      simp only [f1, f2, g1, g2, if_true, if_false]
      by_cases hb : b = 1
      · subst hb
        have c0 : cycF l p (1 - 1) = (0, 0, 1) := by unfold cycF; rw [if_neg (by rw [okFace_iff]; omega)]
        have f3 : fitsR l p (1 - 1) = (false, 1) := by unfold fitsR; rw [c0]; rfl
        simp only [f3, Bool.false_eq_true, if_false, show ¬ ((1 : Int) = 0) by decide, if_true]
        exact knows11e
      · have c0 : (cycF l p (b - 1)).2.2 = 0 := by
          obtain ⟨_, hf, _, cy, far, ec, _⟩ := fits_parts hfit
          unfold cycF
          rw [if_pos ⟨hok, okFace_iff.mpr (by omega)⟩, ec]; rfl
        have f3 : (fitsR l p (b - 1)).1 = false := hmin _ (by omega) (by omega)
        have f4 : (fitsR l p (b - 1)).2 = 0 := by unfold fitsR; rw [if_pos c0]; split <;> rfl
        simp only [f3, f4, Bool.false_eq_true, if_false, if_true]
        exact knows11e
    · rw [leastS_no h]
      simp only [h, if_false, beq_self_eq_true, Bool.and_self, if_true]
      exact knows11e
end Go.Proofs.Ytljgloljncokeaa.PQa
