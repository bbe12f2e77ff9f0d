/- The law FaceBest, of what the program computes: of the least interfaces of all periods up to one the best is the one that gives least, and of these of the greatest period; or there is none. No condition. -/
import Derived.Test.YtljgloljncokeaaQa17
import Derived.Test.YtljgloljncokeaaMf
import Derived.Test.YtljgloljncokeaaQaOpens
namespace Go.Proofs.Ytljgloljncokeaa.PQa
open Go.RowKit Go.Proofs.YtljgloljncokeaaW.PrintWords Go.Proofs.YtljgloljncokeaaW.PrintLast Go.Proofs.YtljgloljncokeaaW.PrintMore

/-- What the search for the best has come to, ahead of period i. -/
def bestI (l : List (S41)) (i : Int) (s : Int × Int × Int) : Prop :=
  (1 ≤ s.1 ∧ s.1 < i ∧ leastS l s.1 = s ∧ s.2.2 = 0 ∧ ∀ q b, 1 ≤ q → q < i → leastS l q = (q, b, 0) → s.2.1 * q ≤ b * s.1 ∧ (b * s.1 = s.2.1 * q → q ≤ s.1)) ∨ (s = (0, 0, 7) ∧ ∀ q, 1 ≤ q → q < i → (leastS l q).2.2 ≠ 0)
theorem best_loop {l : List (S41)} {most : Int} (hl : (l.length : Int) ≤ 1000000) (hm : most ≤ 24) : ∀ (n : Nat) (i : Int) (s : Int × Int × Int), most + 1 - i = n → 1 ≤ i → bestI l i s →
    ∃ r, bestI l (most + 1) r ∧ Ev (fun k => face_Best.l0 k l most s.2.2 i s.1 s.2.1) r
  | 0, i, s, hn, h1, hI => by
    have e : i = most + 1 := by omega
    subst e
    refine ⟨s, hI, Ev.step (f := fun _ => some s) (fun k => ?_) (Ev.now _)⟩
    simp only [face_Best.l0]
    rw [if_neg (by omega)]
  | n + 1, i, s, hn, h1, hI => by
    have hle : i ≤ most := by omega
    have hw : wrap64 (i + 1) = i + 1 := w64 (by omega)
    by_cases h : (leastS l i).2.2 = 0
    · obtain ⟨hok, hp1, hp2, b, e, hb1, hb2, hfit, hmin⟩ := leastS_ok h
      rcases hI with ⟨p1, p2, pe, p0, pall⟩ | ⟨rfl, pno⟩
      · obtain ⟨_, _, _, B, eB, hB1, hB2, _⟩ := leastS_ok (l := l) (p := s.1) (by rw [pe]; exact p0)
        have es : s = (s.1, B, 0) := by rw [← pe, eB]
        have es2 : s.2.1 = B := by rw [es]
        obtain ⟨P, hP⟩ : ∃ P, s.1 = P := ⟨_, rfl⟩
        rw [hP] at es
        subst es
        dsimp only at *
        have b1 : b * P ≤ 200 * 200 := Int.mul_le_mul (by omega) (by omega) (by omega) (by omega)
        have b2 : 0 ≤ b * P := Int.mul_nonneg (by omega) (by omega)
        have b3 : B * i ≤ 200 * 200 := Int.mul_le_mul (by omega) (by omega) (by omega) (by omega)
        have b4 : 0 ≤ B * i := Int.mul_nonneg (by omega) (by omega)
        have w1 : wrap64 (b * P) = b * P := w64 (by omega)
        have w2 : wrap64 (B * i) = B * i := w64 (by omega)
        by_cases hc : b * P ≤ B * i
        · obtain ⟨r, hr, he⟩ := best_loop hl hm n (i + 1) (i, b, 0) (by omega) (by omega) (.inl ⟨h1, by dsimp only; omega, e, rfl, fun q c q1 q2 hq => by
            dsimp only
            by_cases hqi : q = i
            · subst hqi
              rw [e] at hq
              have : b = c := by simpa using hq
              subst this
              exact ⟨Int.le_refl _, fun _ => Int.le_refl _⟩
            · obtain ⟨k1, k2⟩ := pall q c q1 (by omega) hq
              refine ⟨?_, fun _ => by omega⟩
              have m1 : B * q * i ≤ c * P * i := Int.mul_le_mul_of_nonneg_right k1 (by omega)
              have m2 : b * P * q ≤ B * i * q := Int.mul_le_mul_of_nonneg_right hc (by omega)
              have m3 : b * q * P ≤ c * i * P := by
                have a1 : b * q * P = b * P * q := by ac_rfl
                have a2 : c * i * P = c * P * i := by ac_rfl
                have a3 : B * q * i = B * i * q := by ac_rfl
                omega
              exact Int.le_of_mul_le_mul_right m3 (by omega)⟩)
          refine ⟨r, hr, Ev.step (fun k => ?_) he⟩
          simp only [face_Best.l0]
          rw [if_pos hle, least_ev l i hl]
          simp only [Option.bind_some, e, if_true, w1, w2, hw]
          rw [if_pos hc]
        · obtain ⟨r, hr, he⟩ := best_loop hl hm n (i + 1) (P, B, 0) (by omega) (by omega) (.inl ⟨p1, by dsimp only; omega, eB, rfl, fun q c q1 q2 hq => by
            dsimp only
            by_cases hqi : q = i
            · subst hqi
              rw [e] at hq
              have : b = c := by simpa using hq
              subst this
              exact ⟨by omega, fun h => by omega⟩
            · exact pall q c q1 (by omega) hq⟩)
          refine ⟨r, hr, Ev.step (fun k => ?_) he⟩
          simp only [face_Best.l0]
          rw [if_pos hle, least_ev l i hl]
          simp only [Option.bind_some, e, if_true, w1, w2, hw]
          rw [if_neg hc]
      · obtain ⟨r, hr, he⟩ := best_loop hl hm n (i + 1) (i, b, 0) (by omega) (by omega) (.inl ⟨h1, by dsimp only; omega, e, rfl, fun q c q1 q2 hq => by
          dsimp only
          by_cases hqi : q = i
          · subst hqi
            rw [e] at hq
            have : b = c := by simpa using hq
            subst this
            exact ⟨Int.le_refl _, fun _ => Int.le_refl _⟩
          · exact absurd (by rw [hq]) (pno q q1 (by omega))⟩)
        refine ⟨r, hr, Ev.step (fun k => ?_) he⟩
        simp only [face_Best.l0]
        rw [if_pos hle, least_ev l i hl]
        simp only [Option.bind_some, e, if_true, hw, show ¬ ((7 : Int) = 0) by decide, if_false]
    · obtain ⟨r, hr, he⟩ := best_loop hl hm n (i + 1) s (by omega) (by omega) (by
        rcases hI with ⟨p1, p2, pe, p0, pall⟩ | ⟨rfl, pno⟩
        · refine .inl ⟨p1, by omega, pe, p0, fun q c q1 q2 hq => ?_⟩
          by_cases hqi : q = i
          · subst hqi; exact absurd (by rw [hq]) h
          · exact pall q c q1 (by omega) hq
        · refine .inr ⟨rfl, fun q q1 q2 => ?_⟩
          by_cases hqi : q = i
          · subst hqi; exact h
          · exact pno q q1 (by omega))
      refine ⟨r, hr, Ev.step (fun k => ?_) he⟩
      simp only [face_Best.l0]
      rw [if_pos hle, least_ev l i hl]
      simp only [Option.bind_some, h, if_false, hw]
theorem best_test {l : List (S41)} {most : Int} {s : Int × Int × Int} (hl : (l.length : Int) ≤ 1000000) (hm : most ≤ 24) (hI : bestI l (most + 1) s) : ∀ (n : Nat) (i : Int), most + 1 - i = n → 1 ≤ i →
    Ev (fun k => remontoirlaw11_FaceBest.l0 k l most s.2.2 i s.1 s.2.1) true
  | 0, i, hn, h1 => by
    rcases hI with ⟨p1, p2, pe, p0, pall⟩ | ⟨rfl, pno⟩
    · refine Ev.step (fun k => ?_) knows11e
      simp only [remontoirlaw11_FaceBest.l0]
      rw [if_neg (by omega), if_pos p0, least_ev l _ hl, pe]
      simp only [Option.bind_some, beq_self_eq_true, Bool.and_self, if_true, p0]
      rw [if_pos (show s.1 ≥ 1 from p1), if_pos (by omega)]
    · refine Ev.step (fun k => ?_) knows11e
      simp only [remontoirlaw11_FaceBest.l0]
      rw [if_neg (by omega), if_neg (by decide)]
      rfl
  | n + 1, i, hn, h1 => by
    have ih := best_test hl hm hI n (i + 1) (by omega) (by omega)
    have hle : i ≤ most := by omega
    have hw : wrap64 (i + 1) = i + 1 := w64 (by omega)
    refine Ev.step (fun k => ?_) ih
    simp only [remontoirlaw11_FaceBest.l0]
    rw [if_pos hle, least_ev l i hl]
    simp only [Option.bind_some]
    by_cases h : (leastS l i).2.2 = 0
    · obtain ⟨hok, hp1, hp2, b, e, hb1, hb2, hfit, hmin⟩ := leastS_ok h
      rcases hI with ⟨p1, p2, pe, p0, pall⟩ | ⟨rfl, pno⟩
      · obtain ⟨_, _, _, B, eB, hB1, hB2, _⟩ := leastS_ok (l := l) (p := s.1) (by rw [pe]; exact p0)
        have es2 : s.2.1 = B := by rw [← pe, eB]
        obtain ⟨k1, k2⟩ := pall i b h1 (by omega) e
        rw [es2] at k1 k2 ⊢
        have b1 : b * s.1 ≤ 200 * 200 := Int.mul_le_mul (by omega) (by omega) (by omega) (by omega)
        have b2 : 0 ≤ b * s.1 := Int.mul_nonneg (by omega) (by omega)
        have b3 : B * i ≤ 200 * 200 := Int.mul_le_mul (by omega) (by omega) (by omega) (by omega)
        have b4 : 0 ≤ B * i := Int.mul_nonneg (by omega) (by omega)
        have w1 : wrap64 (b * s.1) = b * s.1 := w64 (by omega)
        have w2 : wrap64 (B * i) = B * i := w64 (by omega)
        rw [e]
        simp only [if_true, p0, w1, w2, hw]
        rw [if_neg (by omega)]
        by_cases hq : b * s.1 = B * i
        · rw [if_pos hq, if_neg (by have := k2 hq; omega)]
        · rw [if_neg hq]
      · exact absurd h (pno i h1 (by omega))
    · rw [if_neg h, hw]
theorem pureFaceBest : ∀ (z0 : List (S41)) (a1 : Int), ((∀ y ∈ z0, ok41 y) ∧ z0.length ≤ 9223372036854775807) → (Lit.int .i64 a1).wf = true → ∃ k : Nat, remontoirlaw11_FaceBest.f k z0 a1 = some true := by
  intro l most hl _
  refine Ev.rounds (g := fun k => remontoirlaw11_FaceBest.f k l most) ?_
  unfold remontoirlaw11_FaceBest.f
  refine Ev.bind (remontoirlaw05_Great.ev l hl.2) ?_
  by_cases hg : greatS l = true
  · simp only [hg, if_true]; exact knows11e
  · have hg' : greatS l = false := by simpa using hg
    have hlen := greatS_len hg'
    simp only [hg', Bool.false_eq_true, if_false]
    by_cases hc : okAll l = true ∧ 1 ≤ most ∧ most ≤ 24
    · obtain ⟨hok, hm1, hm2⟩ := hc
      obtain ⟨r, hr, he⟩ := best_loop (l := l) (most := most) (by omega) hm2 most.toNat 1 (0, 0, 7) (by omega) (by omega) (.inr ⟨rfl, fun q q1 q2 => by omega⟩)
      have hbest : Ev (fun k => face_Best.f k l most) r := by
        unfold face_Best.f
        refine Ev.bind (task_All.ev l (by omega)) ?_
        simp only [hok, if_true]
        simp only [show ¬ (most < 1) by omega, if_false, show decide (most > 24) = false from decide_eq_false (by omega)]
        refine Ev.step (fun k => ?_) he
        simp only [face_Best.j0, Bool.false_eq_true, if_false]
      refine Ev.bind hbest (Ev.bind (remontoirref05_All.ev l (by omega)) ?_)
      simp only [hok, if_true, show ¬ (most < 1) by omega, if_false, show decide (most > 24) = false from decide_eq_false (by omega)]
      refine Ev.step (fun k => ?_) (best_test (by omega) hm2 hr most.toNat 1 (by omega) (by omega))
      simp only [remontoirlaw11_FaceBest.j0, Bool.false_eq_true, if_false]
    · have hbest : Ev (fun k => face_Best.f k l most) (0, 0, 1) := by
        unfold face_Best.f
        refine Ev.bind (task_All.ev l (by omega)) ?_
        have hj : Ev (fun k => face_Best.j0 k l most true) (0, 0, 1) := by
          refine Ev.step (f := fun _ => some (0, 0, 1)) (fun k => ?_) (Ev.now _)
          simp only [face_Best.j0, if_true]
        by_cases hok : okAll l = true
        · simp only [hok, if_true]
          by_cases h1 : most < 1
          · simp only [h1, if_true]; exact hj
          · have h24 : most > 24 := by
              by_cases h9 : most ≤ 24
              · exact absurd ⟨hok, by omega, h9⟩ hc
              · omega
            simp only [h1, if_false, show decide (most > 24) = true from decide_eq_true h24]; exact hj
        · simp only [hok]; exact hj
      have hj : Ev (fun k => remontoirlaw11_FaceBest.j0 k l most 1 true 0 0) true := by
        refine Ev.step (fun k => ?_) knows11e
        simp only [remontoirlaw11_FaceBest.j0, if_true, beq_self_eq_true, Bool.and_self]
      refine Ev.bind hbest (Ev.bind (remontoirref05_All.ev l (by omega)) ?_)
      by_cases hok : okAll l = true
      · simp only [hok, if_true]
        by_cases h1 : most < 1
        · simp only [h1, if_true]; exact hj
        · have h24 : most > 24 := by
            by_cases h9 : most ≤ 24
            · exact absurd ⟨hok, by omega, h9⟩ hc
            · omega
          simp only [h1, if_false, show decide (most > 24) = true from decide_eq_true h24]; exact hj
      · simp only [hok]; exact hj
end Go.Proofs.Ytljgloljncokeaa.PQa
