/- Of the schedulability test, as the program computes it: tasks that fit an interface do so for each tick; where they do not, there is a tick for which they do not; and less fits where more does. No condition. -/
import Derived.Test.YtljgloljncokeaaQa6
import Derived.Test.YtljgloljncokeaaQa2
namespace Go.Proofs.Ytljgloljncokeaa.PQa
open Go.RowKit Go.Proofs.YtljgloljncokeaaW.PrintWords Go.Proofs.YtljgloljncokeaaW.PrintLast Go.Proofs.YtljgloljncokeaaW.PrintMore
theorem jobsN_add {d t x : Int} (m : Int) (ht : 1 ≤ t) (hx : d ≤ x) (hm : 0 ≤ m) : jobsN d t (x + m * t) = jobsN d t x + m := by
  have h0 : 0 ≤ m * t := Int.mul_nonneg hm (by omega)
  unfold jobsN
  rw [if_neg (by omega), if_neg (by omega)]
  have e : x + m * t - d = (x - d) + m * t := by omega
  rw [e, Int.add_mul_ediv_right _ _ (by omega)]
  omega
theorem dbf_cycle {c x : Int} : ∀ {l : List (S41)}, (∀ s ∈ l, okT s = true) → (∀ s ∈ l, s.f1 ≤ x ∧ s.f2 ∣ c) → 0 ≤ c → dbf l (x + c) = dbf l x + asked l c
  | [], _, _, _ => by simp [dbf, asked]
  | s :: l, hok, h, hc => by
    have ih := dbf_cycle (l := l) (fun y hy => hok y (List.mem_cons_of_mem _ hy)) (fun y hy => h y (List.mem_cons_of_mem _ hy)) hc
    have hs := okTask_nums (hok s List.mem_cons_self)
    obtain ⟨h1, m, hm⟩ := h s List.mem_cons_self
    have hq : c / s.f2 = m := by rw [hm]; exact Int.mul_ediv_cancel_left _ (by omega)
    have hm0 : 0 ≤ m := by rw [← hq]; exact Int.ediv_nonneg hc (by omega)
    have e1 : jobsN s.f1 s.f2 (x + c) = jobsN s.f1 s.f2 x + m := by rw [hm, Int.mul_comm]; exact jobsN_add m (by omega) h1 hm0
    have e2 : ∀ y, dbf (s :: l) y = s.f0 * jobsN s.f1 s.f2 y + dbf l y := fun y => by simp [dbf]
    have e3 : asked (s :: l) c = c / s.f2 * s.f0 + asked l c := by simp [asked]
    rw [e2, e2, e3, ih, e1, hq, Int.mul_add, Int.mul_comm m]
    omega
theorem blk_zero {l : List (S41)} {x : Int} (h : ∀ s ∈ l, s.f1 ≤ x) : blk l x = 0 := by
  have key : ∀ (q : List (S41)) (m : Int), (∀ s ∈ q, s.f1 ≤ x) → q.foldl (blkT l x) m = m := by
    intro q
    induction q with
    | nil => intro m _; rfl
    | cons s q ih =>
      intro m hq
      have e : blkT l x m s = m := by unfold blkT; rw [if_pos (hq s List.mem_cons_self)]
      rw [List.foldl_cons, e]
      exact ih m (fun y hy => hq y (List.mem_cons_of_mem _ hy))
  exact key l 0 h
theorem sbf_cycle {p b c x : Int} (hf : okFace p b = true) (hp : p ∣ c) (hc : 0 ≤ c) (hx : p - b ≤ x) : sbf p b (x + c) = sbf p b x + c / p * b := by
  have h := okFace_iff.mp hf
  obtain ⟨m, hm⟩ := hp
  have hq : c / p = m := by rw [hm]; exact Int.mul_ediv_cancel_left _ (by omega)
  unfold sbf
  rw [if_neg (by omega), if_neg (by omega), hq]
  have e : x + c - (p - b) = (x - (p - b)) + m * p := by rw [hm, Int.mul_comm p m]; omega
  have e2 : (x + c - (p - b)) / p = (x - (p - b)) / p + m := by rw [e, Int.add_mul_ediv_right _ _ (by omega)]
  rw [e2, Int.add_mul, Int.add_mul]
  have e3 : c = m * p := by rw [hm, Int.mul_comm]
  omega
theorem cycS_facts : ∀ {l : List (S41)} {c far c2 far2 : Int}, cycS l c far = some (c2, far2) → c ∣ c2 ∧ far ≤ far2 ∧ ∀ s ∈ l, s.f2 ∣ c2 ∧ s.f1 ≤ far2
  | [], c, far, c2, far2, h => by
    unfold cycS at h
    split at h
    · cases h
    · obtain ⟨rfl, rfl⟩ := Prod.mk.inj (Option.some.inj h)
      exact ⟨Int.dvd_refl _, Int.le_refl _, fun s hs => by simp at hs⟩
  | x :: l, c, far, c2, far2, h => by
    unfold cycS at h
    split at h
    · cases h
    · obtain ⟨h1, h2, h3⟩ := cycS_facts h
      refine ⟨Int.dvd_trans (Int.dvd_lcm_left _ _) h1, by omega, fun s hs => ?_⟩
      rcases List.mem_cons.1 hs with rfl | hs
      · exact ⟨Int.dvd_trans (Int.dvd_lcm_right _ _) h1, by omega⟩
      · exact h3 s hs
theorem failsL_nil {l : List (S41)} {p b : Int} {n : Nat} (h : failsL l p b n = []) : ∀ t : Int, 0 ≤ t → t < n → need l t ≤ sbf p b t := by
  intro t ht0 ht
  unfold failsL at h
  rw [List.map_eq_nil_iff, List.filter_eq_nil_iff] at h
  have h1 := h t.toNat (List.mem_range.2 (by omega))
  have e : ((t.toNat : Nat) : Int) = t := by omega
  rw [e] at h1
  unfold failsT at h1
  rw [decide_eq_true_eq] at h1
  omega
theorem failsL_cons {l : List (S41)} {p b x : Int} {n : Nat} {r : List Int} (h : failsL l p b n = x :: r) : 0 ≤ x ∧ x < n ∧ sbf p b x < need l x := by
  have hx : x ∈ failsL l p b n := by rw [h]; exact List.mem_cons_self
  unfold failsL at hx
  obtain ⟨i, hi, rfl⟩ := List.mem_map.1 hx
  obtain ⟨h1, h2⟩ := List.mem_filter.1 hi
  rw [List.mem_range] at h1
  unfold failsT at h2
  rw [decide_eq_true_eq] at h2
  exact ⟨by omega, by omega, h2⟩
/-- What tasks that fit come to. -/
theorem fits_parts {l : List (S41)} {p b : Int} (h : (fitsR l p b).1 = true) : okAll l = true ∧ okFace p b = true ∧ (fitsR l p b).2 = 0 ∧ ∃ c far, cycS l p (2 * p) = some (c, far) ∧ 1 ≤ c ∧ 2 * p ≤ far ∧ c + far ≤ 3000 ∧ asked l c ≤ c / p * b ∧ ∀ t : Int, 0 ≤ t → t ≤ c + far → need l t ≤ sbf p b t := by
  unfold fitsR at h ⊢
  by_cases hc : (cycF l p b).2.2 = 0
  · rw [if_pos hc] at h ⊢
    obtain ⟨hok, hf, c, far, e, e2, h1, h2, h3⟩ := cycF_ok hc
    rw [e2] at h ⊢
    dsimp only at h ⊢
    by_cases ha : asked l c > c / p * b
    · rw [if_pos ha] at h; cases h
    · rw [if_neg ha] at h ⊢
      refine ⟨hok, hf, rfl, c, far, e, h1, h2, h3, by omega, ?_⟩
      unfold firstR at h
      rw [e2] at h
      dsimp only at h
      rw [if_pos rfl] at h
      cases hL : failsL l p b (c + far + 1).toNat with
      | nil => intro t ht0 ht; exact failsL_nil hL t ht0 (by omega)
      | cons x r => rw [hL] at h; simp [headR] at h
  · rw [if_neg hc] at h; cases h
/-- TASKS THAT FIT DO SO FOR EACH TICK. -/
theorem fits_all {l : List (S41)} {p b : Int} (h : (fitsR l p b).1 = true) : ∀ t : Int, 0 ≤ t → need l t ≤ sbf p b t := by
  obtain ⟨hok, hf, _, c, far, e, h1, h2, h3, ha, hup⟩ := fits_parts h
  obtain ⟨hokT, _⟩ := okAll_parts hok
  obtain ⟨d1, d2, d3⟩ := cycS_facts e
  have hpp := okFace_iff.mp hf
  have key : ∀ n : Nat, ∀ t : Int, 0 ≤ t → t ≤ n → need l t ≤ sbf p b t := by
    intro n
    induction n with
    | zero => intro t h0 hn; exact hup t h0 (by omega)
    | succ n ih =>
      intro t h0 hn
      by_cases hle : t ≤ c + far
      · exact hup t h0 hle
      · have hih := ih (t - c) (by omega) (by omega)
        have hD : ∀ s ∈ l, s.f1 ≤ t - c := fun s hs => by have := (d3 s hs).2; omega
        have e1 : dbf l t = dbf l (t - c) + asked l c := by
          have := dbf_cycle (c := c) (x := t - c) hokT (fun s hs => ⟨hD s hs, (d3 s hs).1⟩) (by omega)
          rwa [Int.sub_add_cancel] at this
        have e2 : sbf p b t = sbf p b (t - c) + c / p * b := by
          have := sbf_cycle (x := t - c) hf d1 (by omega) (by omega)
          rwa [Int.sub_add_cancel] at this
        have b1 : blk l t = 0 := blk_zero (fun s hs => by have := hD s hs; omega)
        have b2 : blk l (t - c) = 0 := blk_zero hD
        unfold need at hih ⊢
        omega
  intro t h0
  exact key t.toNat t h0 (by omega)
theorem greatS_len {l : List (S41)} (h : greatS l = false) : l.length ≤ 20 := by
  simp only [greatS, Bool.or_eq_false_iff, decide_eq_false_iff_not] at h
  omega
theorem sbf_mono {p b b2 t : Int} (h : okFace p b = true) (h2 : okFace p b2 = true) (hb : b ≤ b2) (ht : 0 ≤ t) : sbf p b t ≤ sbf p b2 t := by
  rw [okFace_iff] at h h2
  have hs := (sbf_bd (okFace_iff.mpr h2) ht).1
  have key : ∀ q r q2 r2 : Int, t = q * p + r + (p - b) → 0 ≤ r → r < p → t = q2 * p + r2 + (p - b2) → 0 ≤ r2 → r2 < p → 0 ≤ q → 0 ≤ q2 → q * b + max 0 (r - (p - b)) ≤ q2 * b2 + max 0 (r2 - (p - b2)) := by
    intro q r q2 r2 e1 r0 r1 e2 s0 s1 q0 q20
    have hq : q2 = q ∨ q2 = q + 1 := by
      have e : q2 * p + r2 = q * p + r + (b2 - b) := by omega
      have hlt : q2 < q + 2 := by
        by_cases hc : q2 < q + 2
        · exact hc
        · exfalso
          have : (q + 2) * p ≤ q2 * p := Int.mul_le_mul_of_nonneg_right (by omega) (by omega)
          rw [Int.add_mul] at this; omega
      have hge : q ≤ q2 := by
        by_cases hc : q ≤ q2
        · exact hc
        · exfalso
          have : (q2 + 1) * p ≤ q * p := Int.mul_le_mul_of_nonneg_right (by omega) (by omega)
          rw [Int.add_mul] at this; omega
      omega
    rcases hq with rfl | rfl
    · have h3 : q2 * b ≤ q2 * b2 := Int.mul_le_mul_of_nonneg_left hb q20
      omega
    · have h3 : q * b ≤ q * b2 := Int.mul_le_mul_of_nonneg_left hb q0
      have h4 : (q + 1) * p = q * p + p := by rw [Int.add_mul]; omega
      have h5 : (q + 1) * b2 = q * b2 + b2 := by rw [Int.add_mul]; omega
      omega
  unfold sbf at hs ⊢
  by_cases h4 : t < p - b2
  · rw [if_pos h4, if_pos (by omega)]; omega
  · by_cases h5 : t < p - b
    · rw [if_pos h5]; exact hs
    · rw [if_neg h5, if_neg h4]
      have c1 : p * ((t - (p - b)) / p) + (t - (p - b)) % p = t - (p - b) := Int.mul_ediv_add_emod _ _
      have c2 : p * ((t - (p - b2)) / p) + (t - (p - b2)) % p = t - (p - b2) := Int.mul_ediv_add_emod _ _
      have c3 : p * ((t - (p - b)) / p) = (t - (p - b)) / p * p := Int.mul_comm _ _
      have c4 : p * ((t - (p - b2)) / p) = (t - (p - b2)) / p * p := Int.mul_comm _ _
      have q0 : 0 ≤ (t - (p - b)) / p := Int.ediv_nonneg (by omega) (by omega)
      have q1 : 0 ≤ (t - (p - b2)) / p := Int.ediv_nonneg (by omega) (by omega)
      have r0 : 0 ≤ (t - (p - b)) % p := Int.emod_nonneg _ (by omega)
      have r1 : (t - (p - b)) % p < p := Int.emod_lt_of_pos _ (by omega)
      have s0 : 0 ≤ (t - (p - b2)) % p := Int.emod_nonneg _ (by omega)
      have s1 : (t - (p - b2)) % p < p := Int.emod_lt_of_pos _ (by omega)
      have := key _ _ _ _ (by omega) r0 r1 (show t = (t - (p - b2)) / p * p + (t - (p - b2)) % p + (p - b2) by omega) s0 s1 q0 q1
      omega
/-- From the parts: tasks fit. -/
theorem fits_of {l : List (S41)} {p b c far : Int} (hok : okAll l = true) (hf : okFace p b = true) (e : cycS l p (2 * p) = some (c, far)) (ha : asked l c ≤ c / p * b) (h : ∀ t : Int, 0 ≤ t → need l t ≤ sbf p b t) : fitsR l p b = (true, 0) := by
  have ec : cycF l p b = (c, c + far, 0) := by unfold cycF; rw [if_pos ⟨hok, hf⟩, e]; rfl
  have hL : failsL l p b (c + far + 1).toNat = [] := by
    cases hL : failsL l p b (c + far + 1).toNat with
    | nil => rfl
    | cons x r =>
      obtain ⟨x0, x1, x2⟩ := failsL_cons hL
      have := h x x0
      omega
  have hr : firstR l p b = (0, false, 0) := by unfold firstR; rw [ec, if_pos rfl, hL]; rfl
  unfold fitsR
  rw [ec]
  dsimp only
  rw [if_pos rfl, if_neg (by omega), hr]
  rfl
theorem fits_greater {l : List (S41)} {p b b2 : Int} (h : (fitsR l p b).1 = true) (hb : b ≤ b2) (hp : b2 ≤ p) : fitsR l p b2 = (true, 0) := by
  obtain ⟨hok, hf, _, c, far, e, h1, h2, h3, ha, _⟩ := fits_parts h
  have hpp := okFace_iff.mp hf
  have hf2 : okFace p b2 = true := okFace_iff.mpr ⟨by omega, hp, by omega⟩
  have hc0 : 0 ≤ c / p := Int.ediv_nonneg (by omega) (by omega)
  have hm : c / p * b ≤ c / p * b2 := Int.mul_le_mul_of_nonneg_left hb hc0
  exact fits_of hok hf2 e (by omega) (fun t ht => Int.le_trans (fits_all h t ht) (sbf_mono hf hf2 hb ht))
end Go.Proofs.Ytljgloljncokeaa.PQa
