/- The document's answer for layers 7 to 11, as its functions compute it: the same sums, the same supply, the same verdict. No condition. -/
import Derived.Test.YtljgloljncokeaaQa14
import Derived.Test.YtljgloljncokeaaMf
namespace Go.Proofs.Ytljgloljncokeaa.PQa
open Go.RowKit Go.Proofs.YtljgloljncokeaaW.PrintWords Go.Proofs.YtljgloljncokeaaW.PrintLast Go.Proofs.YtljgloljncokeaaW.PrintMore
theorem ruses_l (res c d t : Int) : ∀ (rest pre : List (S63)) (n : Int), ((pre ++ rest).length : Int) ≤ 1000000 → 0 ≤ n → n ≤ pre.length →
    Ev (fun k => remontoirref05_Uses.l0 k res n (pre.length : Int) c d t (pre ++ rest)) (decide (n > 0) || rest.any fun s => s.f0 == res) := by
  intro rest
  induction rest with
  | nil =>
    intro pre n _ _ _
    refine Ev.step (f := fun _ => some (decide (n > 0))) (fun k => ?_) (by simpa using Ev.now _)
    simp only [remontoirref05_Uses.l0]
    rw [if_neg (by simp)]
  | cons b rest ih =>
    intro pre n hlen h0 h1
    have hl : (pre.length : Int) ≤ 1000000 := by simp at hlen; omega
    have e : rd_T63 (pre ++ b :: rest) (pre.length : Int) = b := getD_mid _ _ _ _
    by_cases hb : b.f0 = res
    · have ih2 := ih (pre ++ [b]) (n + 1) (by simpa using hlen) (by omega) (by simp; omega)
      rw [decide_eq_true (show n + 1 > 0 by omega), Bool.true_or] at ih2
      refine Ev.step (fun k => ?_) (by simpa [hb] using ih2)
      simp only [remontoirref05_Uses.l0]
      rw [if_pos (len_mid _ _ _), if_pos (by omega), e, if_pos hb, wrap_succ _ (by omega), w64 (by omega)]
      simp
    · have ih2 := ih (pre ++ [b]) n (by simpa using hlen) h0 (by simp; omega)
      have hb' : (b.f0 == res) = false := beq_eq_false_iff_ne.mpr hb
      refine Ev.step (fun k => ?_) (by simpa [hb'] using ih2)
      simp only [remontoirref05_Uses.l0]
      rw [if_pos (len_mid _ _ _), if_pos (by omega), e, if_neg hb, wrap_succ _ (by omega)]
      simp
theorem ruses_ev (x : S41) (res : Int) (h : okT x = true) : Ev (fun k => remontoirref05_Uses.f k x.f0 x.f1 x.f2 x.f3 res) (usesR x res) := by
  have hx := okTask_nums h
  have h0 := ruses_l res x.f0 x.f1 x.f2 x.f3 [] 0 (by simp; omega) (by omega) (by simp)
  simpa [remontoirref05_Uses.f, usesR] using h0
theorem jobsN_step {d t x : Int} (h : d ≤ x) (ht : 1 ≤ t) : jobsN d t x = jobsN (d + t) t x + 1 := by
  unfold jobsN
  rw [if_neg (by omega)]
  by_cases h1 : x < d + t
  · rw [if_pos h1, Int.ediv_eq_zero_of_lt (by omega) (by omega)]
  · rw [if_neg h1]
    have e : x - d = (x - (d + t)) + 1 * t := by omega
    rw [e, Int.add_mul_ediv_right _ _ (by omega)]
theorem rbound_in {l : List (S41)} {t i v : Int} {a : S41} (hi : 0 ≤ i ∧ i < (l.length : Int)) (hl : (l.length : Int) ≤ 1000) (ha : rd_T41 l i = a) (hok : okT a = true) (ht : t ≤ 3000) :
    ∀ (n : Nat) (s x : Int), jobsN x a.f2 t = n → 0 ≤ x → 0 ≤ s ∧ s + a.f0 * n ≤ 100000000 → Ev (fun k => remontoirref07_Bound.l0 k l t (s + a.f0 * n) (i + 1)) v → Ev (fun k => remontoirref07_Bound.l1 k l t s i x) v := by
  have hx := okTask_nums hok
  intro n
  induction n with
  | zero =>
    intro s x hj hx0 hs hv
    have hlt : ¬ x ≤ t := fun h => by
      have := jobsN_step h (show 1 ≤ a.f2 by omega)
      have hb := (jobsN_bd (d := x + a.f2) (t := a.f2) (x := t) (by omega) (by omega) (by omega)).1
      omega
    refine Ev.step (fun k => ?_) (by simpa using hv)
    simp only [remontoirref07_Bound.l1]
    rw [if_neg hlt, w64 (by omega)]
  | succ n ih =>
    intro s x hj hx0 hs hv
    have hle : x ≤ t := by
      by_cases h : x ≤ t
      · exact h
      · unfold jobsN at hj; rw [if_pos (by omega)] at hj; omega
    have hst := jobsN_step hle (show 1 ≤ a.f2 by omega)
    have hm : a.f0 * ((n + 1 : Nat) : Int) = a.f0 + a.f0 * n := by push_cast; rw [Int.mul_add]; omega
    have hn0 : 0 ≤ a.f0 * (n : Int) := Int.mul_nonneg (by omega) (by omega)
    rw [hm] at hs hv
    have e3 : s + (a.f0 + a.f0 * n) = s + a.f0 + a.f0 * n := by omega
    rw [e3] at hv
    refine Ev.step (fun k => ?_) (ih (s + a.f0) (x + a.f2) (by omega) (by omega) ⟨by omega, by omega⟩ hv)
    simp only [remontoirref07_Bound.l1]
    rw [if_pos hle, if_pos hi.1, if_pos hi.2, ha, w64 (by omega), w64 (by omega)]
theorem rbound_l {l : List (S41)} {t : Int} (hok : ∀ x ∈ l, okT x = true) (hl : l.length ≤ 8) (ht : 0 ≤ t ∧ t ≤ 3000) : ∀ (rest pre : List (S41)), pre ++ rest = l →
    Ev (fun k => remontoirref07_Bound.l0 k l t (dbf pre t) (pre.length : Int)) (dbf l t) := by
  intro rest
  induction rest with
  | nil =>
    intro pre he
    rw [List.append_nil] at he
    subst he
    refine Ev.step (f := fun _ => some (dbf pre t)) (fun k => ?_) (Ev.now _)
    simp only [remontoirref07_Bound.l0]
    rw [if_neg (by omega)]
  | cons a rest ih =>
    intro pre he
    subst he
    have hlen : pre.length < 8 := by simp at hl; omega
    have hpre : ∀ x ∈ pre, okT x = true := fun x hx => hok x (List.mem_append_left _ hx)
    have hoka := hok a (by simp)
    have hx := okTask_nums hoka
    have e : rd_T41 (pre ++ a :: rest) (pre.length : Int) = a := getD_mid _ _ _ _
    have hj := jobsN_bd (d := a.f1) (t := a.f2) (x := t) (by omega) (by omega) ht.1
    have hd := dbf_bd ht.1 hpre
    have hu : a.f0 * jobsN a.f1 a.f2 t ≤ 200 * 3001 := Int.mul_le_mul (by omega) (by omega) hj.1 (by omega)
    have hn : ((jobsN a.f1 a.f2 t).toNat : Int) = jobsN a.f1 a.f2 t := by omega
    have hp : (pre.length : Int) * (200 * (t + 1)) ≤ 8 * (200 * 3001) := Int.mul_le_mul (by omega) (by omega) (by omega) (by omega)
    have ih2 := ih (pre ++ [a]) (by simp)
    rw [dbf_append, dbf_one] at ih2
    refine Ev.step (fun k => ?_) (rbound_in (l := pre ++ a :: rest) (i := (pre.length : Int)) ⟨by omega, len_mid _ _ _⟩ (by omega) e hoka ht.2 (jobsN a.f1 a.f2 t).toNat (dbf pre t) a.f1 (by omega) (by omega) ⟨hd.1, by rw [hn]; omega⟩ (by rw [hn]; simpa using ih2))
    simp only [remontoirref07_Bound.l0]
    rw [if_pos (len_mid _ _ _), if_pos (by omega), e]
theorem rbound_ev {l : List (S41)} {t : Int} (hok : okAll l = true) (ht : 0 ≤ t ∧ t ≤ 3000) : Ev (fun k => remontoirref07_Bound.f k l t) (dbf l t) := by
  obtain ⟨h1, h2⟩ := okAll_parts hok
  have h := rbound_l h1 h2 ht l [] rfl
  simpa [remontoirref07_Bound.f, dbf] using h
/-- One section of a task, and the tasks from one on. -/
theorem rof_in {l : List (S41)} {t i q v : Int} {a : S41} {s : S63} (hok : ∀ x ∈ l, okT x = true) (hl : l.length ≤ 8) (hi : 0 ≤ i ∧ i < (l.length : Int)) (ha : rd_T41 l i = a) (hq : 0 ≤ q ∧ q < (a.f3.length : Int) ∧ q < 100) (hs : rd_T63 a.f3 q = s) :
    ∀ (rest pre : List (S41)) (m : Int), pre ++ rest = l → Ev (fun k => remontoirref08_Of.l1 k l t (if t < a.f1 then lookS rest t m s else m) i (q + 1)) v → Ev (fun k => remontoirref08_Of.l2 k l t m i q (pre.length : Int)) v := by
  intro rest
  induction rest with
  | nil =>
    intro pre m he hv
    rw [List.append_nil] at he
    subst he
    have e : (if t < a.f1 then lookS [] t m s else m) = m := by split <;> simp [lookS, sharedR]
    rw [e] at hv
    refine Ev.step (fun k => ?_) hv
    simp only [remontoirref08_Of.l2]
    rw [if_neg (by omega), w64 (by omega)]
  | cons y rest ih =>
    intro pre m he hv
    subst he
    have hlen : pre.length < 8 := by simp at hl; omega
    have ey : rd_T41 (pre ++ y :: rest) (pre.length : Int) = y := getD_mid _ _ _ _
    have hw : wrap64 ((pre.length : Int) + 1) = ((pre ++ [y]).length : Int) := by rw [wrap_succ _ (by omega)]; simp
    have hoky := hok y (by simp)
    by_cases h1 : a.f1 > t
    · rw [if_pos h1] at hv
      by_cases h2 : y.f1 ≤ t
      · by_cases h3 : usesR y s.f0 = true
        · have hsh : sharedR (y :: rest) t s.f0 = true := by simp [sharedR, h2, h3]
          by_cases h4 : s.f2 > m
          · have e : lookS (y :: rest) t m s = s.f2 := by unfold lookS; rw [if_pos ⟨h4, hsh⟩]
            rw [e] at hv
            have e2 : lookS rest t s.f2 s = s.f2 := by unfold lookS; rw [if_neg (by omega)]
            have ih2 := ih (pre ++ [y]) s.f2 (by simp) (by rw [if_pos h1, e2]; exact hv)
            refine Ev.step (fun k => ?_) (Ev.bind (ruses_ev y s.f0 hoky) (f := fun k t305 => if t305 = true then (if s.f2 > m then (remontoirref08_Of.l2 k (pre ++ y :: rest) t s.f2 i q (wrap64 ((pre.length : Int) + 1))) else (remontoirref08_Of.l2 k (pre ++ y :: rest) t m i q (wrap64 ((pre.length : Int) + 1)))) else (remontoirref08_Of.l2 k (pre ++ y :: rest) t m i q (wrap64 ((pre.length : Int) + 1)))) (by simp only [h3, if_true, h4, hw]; exact ih2))
            simp only [remontoirref08_Of.l2]
            rw [if_pos (len_mid _ _ _), if_pos hi.1, if_pos hi.2, ha, if_pos h1, if_pos (by omega), ey, if_pos h2, if_pos hq.1, if_pos hq.2.1, hs]
          · have e : lookS (y :: rest) t m s = m := by unfold lookS; rw [if_neg (by omega)]
            rw [e] at hv
            have e2 : lookS rest t m s = m := by unfold lookS; rw [if_neg (by omega)]
            have ih2 := ih (pre ++ [y]) m (by simp) (by rw [if_pos h1, e2]; exact hv)
            refine Ev.step (fun k => ?_) (Ev.bind (ruses_ev y s.f0 hoky) (f := fun k t305 => if t305 = true then (if s.f2 > m then (remontoirref08_Of.l2 k (pre ++ y :: rest) t s.f2 i q (wrap64 ((pre.length : Int) + 1))) else (remontoirref08_Of.l2 k (pre ++ y :: rest) t m i q (wrap64 ((pre.length : Int) + 1)))) else (remontoirref08_Of.l2 k (pre ++ y :: rest) t m i q (wrap64 ((pre.length : Int) + 1)))) (by simp only [h3, if_true, h4, if_false, hw]; exact ih2))
            simp only [remontoirref08_Of.l2]
            rw [if_pos (len_mid _ _ _), if_pos hi.1, if_pos hi.2, ha, if_pos h1, if_pos (by omega), ey, if_pos h2, if_pos hq.1, if_pos hq.2.1, hs]
        · have e : lookS (y :: rest) t m s = lookS rest t m s := by
            have e3 : sharedR (y :: rest) t s.f0 = sharedR rest t s.f0 := by simp [sharedR, h3]
            unfold lookS; rw [e3]
          rw [e] at hv
          have ih2 := ih (pre ++ [y]) m (by simp) (by rw [if_pos h1]; exact hv)
          refine Ev.step (fun k => ?_) (Ev.bind (ruses_ev y s.f0 hoky) (f := fun k t305 => if t305 = true then (if s.f2 > m then (remontoirref08_Of.l2 k (pre ++ y :: rest) t s.f2 i q (wrap64 ((pre.length : Int) + 1))) else (remontoirref08_Of.l2 k (pre ++ y :: rest) t m i q (wrap64 ((pre.length : Int) + 1)))) else (remontoirref08_Of.l2 k (pre ++ y :: rest) t m i q (wrap64 ((pre.length : Int) + 1)))) (by simp only [h3, hw]; exact ih2))
          simp only [remontoirref08_Of.l2]
          rw [if_pos (len_mid _ _ _), if_pos hi.1, if_pos hi.2, ha, if_pos h1, if_pos (by omega), ey, if_pos h2, if_pos hq.1, if_pos hq.2.1, hs]
      · have e : lookS (y :: rest) t m s = lookS rest t m s := by
          have e3 : sharedR (y :: rest) t s.f0 = sharedR rest t s.f0 := by simp [sharedR, h2]
          unfold lookS; rw [e3]
        rw [e] at hv
        have ih2 := ih (pre ++ [y]) m (by simp) (by rw [if_pos h1]; exact hv)
        refine Ev.step (fun k => ?_) ih2
        simp only [remontoirref08_Of.l2]
        rw [if_pos (len_mid _ _ _), if_pos hi.1, if_pos hi.2, ha, if_pos h1, if_pos (by omega), ey, if_neg h2, hw]
    · rw [if_neg h1] at hv
      have ih2 := ih (pre ++ [y]) m (by simp) (by rw [if_neg h1]; exact hv)
      refine Ev.step (fun k => ?_) ih2
      simp only [remontoirref08_Of.l2]
      rw [if_pos (len_mid _ _ _), if_pos hi.1, if_pos hi.2, ha, if_neg h1, hw]
theorem rof_mid {l : List (S41)} {t i v : Int} {a : S41} (hok : ∀ x ∈ l, okT x = true) (hl : l.length ≤ 8) (hi : 0 ≤ i ∧ i < (l.length : Int)) (ha : rd_T41 l i = a) (ha4 : a.f3.length ≤ 4) :
    ∀ (rest pre : List (S63)) (m : Int), pre ++ rest = a.f3 → Ev (fun k => remontoirref08_Of.l0 k l t (if t < a.f1 then rest.foldl (lookS l t) m else m) (i + 1)) v → Ev (fun k => remontoirref08_Of.l1 k l t m i (pre.length : Int)) v := by
  intro rest
  induction rest with
  | nil =>
    intro pre m he hv
    rw [List.append_nil] at he
    have e : (if t < a.f1 then ([] : List (S63)).foldl (lookS l t) m else m) = m := by split <;> rfl
    rw [e] at hv
    refine Ev.step (fun k => ?_) hv
    simp only [remontoirref08_Of.l1]
    rw [if_pos hi.1, if_pos hi.2, ha, if_neg (by rw [he]; omega), w64 (by omega)]
  | cons s rest ih =>
    intro pre m he hv
    have hlen : pre.length < 4 := by have := congrArg List.length he; simp at this; omega
    have es : rd_T63 a.f3 (pre.length : Int) = s := by rw [← he]; exact getD_mid _ _ _ _
    have hlt : (pre.length : Int) < (a.f3.length : Int) := by rw [← he]; exact len_mid _ _ _
    have ih2 := ih (pre ++ [s]) (if t < a.f1 then lookS l t m s else m) (by simpa using he) (by
      by_cases h1 : t < a.f1
      · simpa [h1] using hv
      · simpa [h1] using hv)
    have hw : (((pre ++ [s]).length : Nat) : Int) = (pre.length : Int) + 1 := by simp
    rw [hw] at ih2
    refine Ev.step (fun k => ?_) (rof_in (s := s) hok hl hi ha ⟨by omega, hlt, by omega⟩ es l [] m rfl ih2)
    simp only [remontoirref08_Of.l1]
    rw [if_pos hi.1, if_pos hi.2, ha, if_pos hlt]
    rfl
theorem rof_l {l : List (S41)} {t : Int} (hok : ∀ x ∈ l, okT x = true) (hl : l.length ≤ 8) : ∀ (rest pre : List (S41)) (m : Int), pre ++ rest = l →
    Ev (fun k => remontoirref08_Of.l0 k l t m (pre.length : Int)) (rest.foldl (blkT l t) m) := by
  intro rest
  induction rest with
  | nil =>
    intro pre m he
    rw [List.append_nil] at he
    subst he
    refine Ev.step (f := fun _ => some m) (fun k => ?_) (Ev.now _)
    simp only [remontoirref08_Of.l0]
    rw [if_neg (by omega)]
  | cons a rest ih =>
    intro pre m he
    subst he
    have hlen : pre.length < 8 := by simp at hl; omega
    have e : rd_T41 (pre ++ a :: rest) (pre.length : Int) = a := getD_mid _ _ _ _
    have hx := okTask_nums (hok a (by simp))
    have eb : (if t < a.f1 then a.f3.foldl (lookS (pre ++ a :: rest) t) m else m) = blkT (pre ++ a :: rest) t m a := by
      unfold blkT
      by_cases h : t < a.f1
      · rw [if_pos h, if_neg (by omega)]
      · rw [if_neg h, if_pos (by omega)]
    have ih2 := ih (pre ++ [a]) (blkT (pre ++ a :: rest) t m a) (by simp)
    have hw : (((pre ++ [a]).length : Nat) : Int) = (pre.length : Int) + 1 := by simp
    rw [hw, ← eb] at ih2
    rw [List.foldl_cons, ← eb]
    refine Ev.step (fun k => ?_) (rof_mid (a := a) hok hl ⟨by omega, len_mid _ _ _⟩ e (by omega) a.f3 [] m rfl ih2)
    simp only [remontoirref08_Of.l0]
    rw [if_pos (len_mid _ _ _)]
    rfl
theorem rneed_ev {l : List (S41)} {t : Int} (hok : okAll l = true) (ht : 0 ≤ t ∧ t ≤ 3000) : Ev (fun k => remontoirref10_Need.f k l t) (need l t) := by
  obtain ⟨h1, h2⟩ := okAll_parts hok
  have h := rof_l (t := t) h1 h2 l [] 0 rfl
  have ho : Ev (fun k => remontoirref08_Of.f k l t) (blk l t) := by simpa [remontoirref08_Of.f, blk] using h
  unfold remontoirref10_Need.f
  refine Ev.bind (rbound_ev hok ht) (Ev.bind ho ?_)
  have hd := dbf_bd ht.1 h1
  have hb := blk_bd (t := t) h1
  have hp : (l.length : Int) * (200 * (t + 1)) ≤ 8 * (200 * 3001) := Int.mul_le_mul (by omega) (by omega) (by omega) (by omega)
  rw [w64 (by omega)]
  exact Ev.now _
def worstB (p b x : Int) : Bool := if x < p then decide (x < b) else decide (x % p ≥ p - b)
theorem worst_ev {p b x : Int} (hf : okFace p b = true) (hx : 0 ≤ x) : remontoirref09_Worst.f p b x = some (worstB p b x) := by
  have h := okFace_iff.mp hf
  unfold remontoirref09_Worst.f worstB
  by_cases h1 : x < p
  · rw [if_pos h1, if_pos h1]
  · rw [if_neg h1, if_neg h1, if_neg (by omega), w64 (by omega), Int.tmod_eq_emod_of_nonneg hx]
theorem sbf_step {p b t : Int} (hf : okFace p b = true) (ht : 0 ≤ t) : sbf p b (t + 1) = sbf p b t + (if worstB p b (b + t) = true then 1 else 0) := by
  have h := okFace_iff.mp hf
  unfold sbf worstB
  by_cases h1 : t < p - b
  · rw [if_pos h1, if_pos (show b + t < p by omega), decide_eq_false (show ¬ b + t < b by omega)]
    by_cases h2 : t + 1 < p - b
    · rw [if_pos h2]; rfl
    · rw [if_neg h2]
      have e : t + 1 - (p - b) = 0 := by omega
      rw [e]
      simp
      omega
  · rw [if_neg h1, if_neg (show ¬ t + 1 < p - b by omega), if_neg (show ¬ b + t < p by omega)]
    obtain ⟨x, hx⟩ : ∃ x, t - (p - b) = x := ⟨_, rfl⟩
    have hx1 : t + 1 - (p - b) = x + 1 := by omega
    have hm : (b + t) % p = x % p := by
      have e : b + t = x + p := by omega
      rw [e, Int.add_emod_right]
    rw [hx, hx1, hm]
    have c1 : p * (x / p) + x % p = x := Int.mul_ediv_add_emod _ _
    have c2 : p * (x / p) = x / p * p := Int.mul_comm _ _
    have c3 : p * ((x + 1) / p) + (x + 1) % p = x + 1 := Int.mul_ediv_add_emod _ _
    have c4 : p * ((x + 1) / p) = (x + 1) / p * p := Int.mul_comm _ _
    have r0 : 0 ≤ x % p := Int.emod_nonneg _ (by omega)
    have r1 : x % p < p := Int.emod_lt_of_pos _ (by omega)
    have s0 : 0 ≤ (x + 1) % p := Int.emod_nonneg _ (by omega)
    have s1 : (x + 1) % p < p := Int.emod_lt_of_pos _ (by omega)
    by_cases hl : x % p + 1 < p
    · have hq : (x + 1) / p = x / p := by
        have := Int.ediv_emod_unique (a := x + 1) (b := p) (r := x % p + 1) (q := x / p) (by omega)
        exact (this.2 ⟨by omega, by omega, hl⟩).1
      rw [hq]
      by_cases hw : x % p ≥ p - b
      · rw [decide_eq_true hw, if_pos rfl]; omega
      · rw [decide_eq_false hw, if_neg (by simp)]; omega
    · have hq : (x + 1) / p = x / p + 1 := by
        have := Int.ediv_emod_unique (a := x + 1) (b := p) (r := 0) (q := x / p + 1) (by omega)
        exact (this.2 ⟨by rw [Int.mul_add]; omega, by omega, by omega⟩).1
      rw [hq, decide_eq_true (show x % p ≥ p - b by omega), if_pos rfl]
      have e2 : (x / p + 1) * b = x / p * b + b := by rw [Int.add_mul]; omega
      have e3 : (x / p + 1) * p = x / p * p + p := by rw [Int.add_mul]; omega
      omega
theorem rsbf_l {p b t : Int} (hf : okFace p b = true) (ht : t ≤ 3000) : ∀ (n : Nat) (i : Int), t - i = n → 0 ≤ i → Ev (fun k => remontoirref09_Bound.l0 k t (sbf p b i) (b + i) p b) (sbf p b t) := by
  have h := okFace_iff.mp hf
  intro n
  induction n with
  | zero =>
    intro i hn hi
    have e : i = t := by omega
    subst e
    refine Ev.step (f := fun _ => some (sbf p b i)) (fun k => ?_) (Ev.now _)
    simp only [remontoirref09_Bound.l0]
    rw [w64 (by omega), if_neg (by omega)]
  | succ n ih =>
    intro i hn hi
    have ih2 := ih (i + 1) (by omega) (by omega)
    have hb := sbf_bd hf hi
    rw [sbf_step hf hi] at ih2
    have e1 : b + (i + 1) = b + i + 1 := by omega
    rw [e1] at ih2
    refine Ev.step (fun k => ?_) ih2
    simp only [remontoirref09_Bound.l0]
    rw [w64 (n := b + t) (by omega), if_pos (by omega), worst_ev hf (by omega)]
    simp only [Option.bind_some]
    by_cases hw : worstB p b (b + i) = true
    · rw [if_pos hw, if_pos hw, w64 (by omega), w64 (by omega)]
    · rw [if_neg hw, if_neg hw, w64 (n := b + i + 1) (by omega), Int.add_zero]
theorem rsbf_ev {p b t : Int} (hf : okFace p b = true) (ht : 0 ≤ t ∧ t ≤ 3000) : Ev (fun k => remontoirref09_Bound.f k p b t) (sbf p b t) := by
  have h := okFace_iff.mp hf
  have h0 := rsbf_l hf ht.2 t.toNat 0 (by omega) (by omega)
  have e : sbf p b 0 = 0 := by have := sbf_bd hf (Int.le_refl 0); omega
  rw [e, Int.add_zero] at h0
  exact h0
theorem rfirst_l {l : List (S41)} {p b fin : Int} (hok : okAll l = true) (hf : okFace p b = true) (hfin : fin ≤ 3000) : ∀ (n : Nat) (i : Int), fin + 1 - i = n → 0 ≤ i →
    ∃ x d, Ev (fun k => remontoirref10_First.l0 k l fin i p b) (x, d) ∧ (d = true ↔ ∃ t, i ≤ t ∧ t ≤ fin ∧ sbf p b t < need l t) := by
  intro n
  induction n with
  | zero =>
    intro i hn hi
    refine ⟨0, false, Ev.step (f := fun _ => some (0, false)) (fun k => ?_) (Ev.now _), ⟨fun h => by simp at h, fun ⟨t, h1, h2, _⟩ => by omega⟩⟩
    simp only [remontoirref10_First.l0]
    rw [if_neg (by omega)]
  | succ n ih =>
    intro i hn hi
    obtain ⟨x, d, he, hd⟩ := ih (i + 1) (by omega) (by omega)
    have hle : i ≤ fin := by omega
    have hw : wrap64 (i + 1) = i + 1 := w64 (by omega)
    by_cases hc : sbf p b i < need l i
    · refine ⟨i, true, Ev.step (f := fun k => (remontoirref10_Need.f k l i).bind fun t316 => ((remontoirref09_Bound.f k p b i).bind fun t317 => (if t316 > t317 then (some (i, true)) else (remontoirref10_First.l0 k l fin (wrap64 (i + 1)) p b)))) (fun k => ?_) (Ev.bind (rneed_ev hok ⟨hi, by omega⟩) (Ev.bind (rsbf_ev hf ⟨hi, by omega⟩) ?_)), ⟨fun _ => ⟨i, Int.le_refl _, hle, hc⟩, fun _ => rfl⟩⟩
      · simp only [remontoirref10_First.l0]
        rw [if_pos hle]
      · have hc' : need l i > sbf p b i := hc
        simp only [hc', if_true]
        exact Ev.now _
    · refine ⟨x, d, Ev.step (f := fun k => (remontoirref10_Need.f k l i).bind fun t316 => ((remontoirref09_Bound.f k p b i).bind fun t317 => (if t316 > t317 then (some (i, true)) else (remontoirref10_First.l0 k l fin (wrap64 (i + 1)) p b)))) (fun k => ?_) (Ev.bind (rneed_ev hok ⟨hi, by omega⟩) (Ev.bind (rsbf_ev hf ⟨hi, by omega⟩) ?_)), ⟨fun h => ?_, fun ⟨t, h1, h2, h3⟩ => hd.mpr ⟨t, ?_, h2, h3⟩⟩⟩
      · simp only [remontoirref10_First.l0]
        rw [if_pos hle]
      · have hc' : ¬ (need l i > sbf p b i) := hc
        simp only [hc', if_false, hw]
        exact he
      · obtain ⟨t, h1, h2, h3⟩ := hd.mp h
        exact ⟨t, by omega, h2, h3⟩
      · by_cases e : t = i
        · subst e; exact absurd h3 hc
        · omega
theorem rasked_l {l : List (S41)} {c p b : Int} (hok : ∀ x ∈ l, okT x = true) (hl : l.length ≤ 8) (hf : okFace p b = true) (hc : 0 ≤ c ∧ c ≤ 3000) : ∀ (rest pre : List (S41)), pre ++ rest = l →
    Ev (fun k => remontoirref10_Asked.l0 k l c (asked pre c) (pre.length : Int) p b) (asked l c, b * (c / p)) := by
  have h := okFace_iff.mp hf
  intro rest
  induction rest with
  | nil =>
    intro pre he
    rw [List.append_nil] at he
    subst he
    have hq := ask_bd (t := p) (x := b) hc (by omega) (by omega)
    have hm : b * (c / p) = c / p * b := Int.mul_comm _ _
    refine Ev.step (f := fun _ => some (asked pre c, b * (c / p))) (fun k => ?_) (Ev.now _)
    simp only [remontoirref10_Asked.l0]
    rw [if_neg (by omega), if_neg (by omega), Int.tdiv_eq_ediv_of_nonneg hc.1, w64 (n := c / p) (by omega), w64 (by omega)]
  | cons a rest ih =>
    intro pre he
    subst he
    have hlen : pre.length < 8 := by simp at hl; omega
    have e : rd_T41 (pre ++ a :: rest) (pre.length : Int) = a := getD_mid _ _ _ _
    have hx := okTask_nums (hok a (by simp))
    have hq := ask_bd (t := a.f2) (x := a.f0) hc (by omega) (by omega)
    have hm : a.f0 * (c / a.f2) = c / a.f2 * a.f0 := Int.mul_comm _ _
    have hpre : ∀ (m : List (S41)), (∀ x ∈ m, okT x = true) → 0 ≤ asked m c ∧ asked m c ≤ 600000 * m.length := by
      intro m
      induction m with
      | nil => intro _; simp [asked]
      | cons y m ihm =>
        intro hm
        have hy := okTask_nums (hm y List.mem_cons_self)
        have hqy := ask_bd (t := y.f2) (x := y.f0) hc (by omega) (by omega)
        have := ihm (fun z hz => hm z (List.mem_cons_of_mem _ hz))
        have e4 : asked (y :: m) c = c / y.f2 * y.f0 + asked m c := by simp [asked]
        rw [e4, List.length_cons]
        push_cast
        omega
    have hp := hpre pre (fun x hx => hok x (List.mem_append_left _ hx))
    have ih2 := ih (pre ++ [a]) (by simp)
    rw [asked_append, asked_one] at ih2
    have hw : (((pre ++ [a]).length : Nat) : Int) = (pre.length : Int) + 1 := by simp
    rw [hw] at ih2
    refine Ev.step (fun k => ?_) ih2
    simp only [remontoirref10_Asked.l0]
    rw [if_pos (len_mid _ _ _), if_pos (by omega), e, if_neg (by omega), Int.tdiv_eq_ediv_of_nonneg hc.1, w64 (n := c / a.f2) (by omega), hm, w64 (n := c / a.f2 * a.f0) (by omega), w64 (by omega), w64 (by omega)]
/-- The document's verdict is the program's. -/
theorem rfits_ev {l : List (S41)} {p b : Int} (hlen : (l.length : Int) ≤ 1000000) (hcy : (cycF l p b).2.2 = 0) : Ev (fun k => remontoirref10_Fits.f k l p b) (fitsR l p b).1 := by
  obtain ⟨hok, hf, c, far, e, ec, h1, h2, h3⟩ := cycF_ok hcy
  obtain ⟨hokT, hl8⟩ := okAll_parts hok
  have hpp := okFace_iff.mp hf
  obtain ⟨x, d, he, hd⟩ := rfirst_l hok hf h3 (c + far + 1).toNat 0 (by omega) (by omega)
  have ha : Ev (fun k => remontoirref10_Asked.f k l p b c) (asked l c, b * (c / p)) := by
    have := rasked_l hokT hl8 hf ⟨by omega, by omega⟩ (c := c) l [] rfl
    simpa [remontoirref10_Asked.f, asked] using this
  unfold remontoirref10_Fits.f
  refine Ev.bind (remontoirref10_Cycle.ev l p b hlen) ?_
  rw [ec]
  refine Ev.bind ha (Ev.bind (show Ev (fun k => remontoirref10_First.f k l p b (c + far)) (x, d) from he) ?_)
  have hm : b * (c / p) = c / p * b := Int.mul_comm _ _
  have hcc : (cycF l p b).2.2 = 0 := hcy
  unfold fitsR
  rw [ec]
  dsimp only
  rw [if_pos rfl, hm]
  by_cases hg : asked l c > c / p * b
  · rw [if_pos hg, if_neg (by omega)]
    exact Ev.now _
  · rw [if_neg hg, if_pos (by omega)]
    have hfr : (firstR l p b).2.1 = d := by
      unfold firstR
      rw [ec, if_pos rfl]
      cases hL : failsL l p b (c + far + 1).toNat with
      | nil =>
        have hn := failsL_nil hL
        symm
        simp only [headR]
        cases d with
        | false => rfl
        | true =>
          obtain ⟨t, t0, t1, t2⟩ := hd.mp rfl
          have := hn t t0 (by omega)
          omega
      | cons y r =>
        obtain ⟨y0, y1, y2⟩ := failsL_cons hL
        simp only [headR]
        exact (hd.mpr ⟨y, y0, by omega, y2⟩).symm
    rw [hfr]
    exact Ev.now _
/-- The document's least interface is the program's. -/
theorem rleast_l {l : List (S41)} {p : Int} (hlen : (l.length : Int) ≤ 1000000) (hp : p ≤ 200) (hcy : ∀ b, 1 ≤ b → b ≤ p → (cycF l p b).2.2 = 0) : ∀ (n : Nat) (i : Int), p + 1 - i = n → 1 ≤ i →
    (∀ b, i ≤ b → b ≤ p → (fitsR l p b).1 = true → (∀ c, i ≤ c → c < b → (fitsR l p c).1 = false) → Ev (fun k => remontoirref11_Least.l0 k l p i) (b, 0)) ∧ ((∀ c, i ≤ c → c ≤ p → (fitsR l p c).1 = false) → Ev (fun k => remontoirref11_Least.l0 k l p i) (0, 7)) := by
  intro n
  induction n with
  | zero =>
    intro i hn hi
    refine ⟨fun b b1 b2 _ _ => by omega, fun _ => Ev.step (f := fun _ => some (0, 7)) (fun k => ?_) (Ev.now _)⟩
    simp only [remontoirref11_Least.l0]
    rw [if_neg (by omega)]
  | succ n ih =>
    intro i hn hi
    obtain ⟨ih1, ih2⟩ := ih (i + 1) (by omega) (by omega)
    have hle : i ≤ p := by omega
    have hw : wrap64 (i + 1) = i + 1 := w64 (by omega)
    have hfe := rfits_ev hlen (hcy i hi hle)
    have key : ∀ r, Ev (fun k => if (fitsR l p i).1 = true then some (i, 0) else remontoirref11_Least.l0 k l p (i + 1)) r → Ev (fun k => remontoirref11_Least.l0 k l p i) r := by
      intro r hr
      refine Ev.step (f := fun k => (remontoirref10_Fits.f k l p i).bind fun t330 => (if t330 = true then (some (i, 0)) else (remontoirref11_Least.l0 k l p (i + 1)))) (fun k => ?_) (Ev.bind hfe hr)
      simp only [remontoirref11_Least.l0]
      rw [if_pos hle, hw]
    refine ⟨fun b b1 b2 hb hno => key _ ?_, fun hno => key _ ?_⟩
    · by_cases e : b = i
      · subst e
        simp only [hb, if_true]
        exact Ev.now _
      · have hi0 : (fitsR l p i).1 = false := hno i (Int.le_refl _) (by omega)
        simp only [hi0, Bool.false_eq_true, if_false]
        exact ih1 b (by omega) b2 hb (fun c c1 c2 => hno c (by omega) c2)
    · have hi0 : (fitsR l p i).1 = false := hno i (Int.le_refl _) hle
      simp only [hi0, Bool.false_eq_true, if_false]
      exact ih2 (fun c c1 c2 => hno c (by omega) c2)
theorem rleast_ev {l : List (S41)} {p : Int} (hlen : (l.length : Int) ≤ 1000000) : Ev (fun k => remontoirref11_Least.f k l p) ((leastS l p).2.1, (leastS l p).2.2) := by
  have hj : Ev (fun k => remontoirref11_Least.j0 k l p true) (0, 1) := by
    refine Ev.step (f := fun _ => some (0, 1)) (fun k => ?_) (Ev.now _)
    simp only [remontoirref11_Least.j0, if_true]
  unfold remontoirref11_Least.f
  refine Ev.bind (remontoirref05_All.ev l hlen) ?_
  by_cases hok : okAll l = true
  · by_cases hp : 1 ≤ p ∧ p ≤ 200
    · simp only [hok, if_true, show ¬ (p < 1) by omega, if_false, show decide (p > 200) = false from decide_eq_false (by omega)]
      have e0 : leastS l p = (if (fitsR l p 1).2 = 0 then (if (fitsR l p p).1 = true then (p, halfS l p 200 1 p, 0) else (0, 0, 7)) else (0, 0, (fitsR l p 1).2)) := by unfold leastS; rw [if_pos ⟨hok, hp⟩]
      have hc := remontoirref10_Cycle.ev l p 1 hlen
      refine Ev.step (f := fun k => (remontoirref10_Cycle.f k l p 1).bind fun bt327 => (if bt327.2.2 = 0 then (remontoirref11_Least.l0 k l p 1) else (some (0, bt327.2.2)))) (fun k => ?_) (Ev.bind hc ?_)
      · simp only [remontoirref11_Least.j0, Bool.false_eq_true, if_false]
      · by_cases h0 : (cycF l p 1).2.2 = 0
        · have hcy : ∀ b, 1 ≤ b → b ≤ p → (cycF l p b).2.2 = 0 := fun b b1 b2 => cycF_err h0 (okFace_iff.mpr ⟨b1, b2, hp.2⟩)
          have hf0 : (fitsR l p 1).2 = 0 := by unfold fitsR; rw [if_pos h0]; split <;> rfl
          simp only [h0, if_true]
          rw [e0, if_pos hf0]
          obtain ⟨r1, r2⟩ := rleast_l hlen hp.2 hcy p.toNat 1 (by omega) (by omega)
          by_cases hfp : (fitsR l p p).1 = true
          · rw [if_pos hfp]
            obtain ⟨a1, a2, a3, a4⟩ := halfS_spec (l := l) (p := p) 200 1 p (by omega) (by omega) (by omega) (by omega) hfp (fun c c1 c2 => by omega)
            exact r1 _ a1 a2 a3 (fun c c1 c2 => a4 c c1 c2)
          · rw [if_neg hfp]
            refine r2 (fun c c1 c2 => ?_)
            by_cases hc : (fitsR l p c).1 = true
            · exact absurd (by rw [fits_greater hc c2 (Int.le_refl _)]) hfp
            · simpa using hc
        · have hf0 : (fitsR l p 1).2 = (cycF l p 1).2.2 := by unfold fitsR; rw [if_neg h0]
          rw [e0, if_neg (by rw [hf0]; exact h0), hf0]
          simp only [h0, if_false]
          exact Ev.now _
    · have e0 : leastS l p = (0, 0, 1) := by unfold leastS; rw [if_neg (fun h => hp h.2)]
      rw [e0]
      by_cases h1 : p < 1
      · simp only [hok, if_true, h1]; exact hj
      · simp only [hok, if_true, h1, if_false, show decide (p > 200) = true from decide_eq_true (by omega)]; exact hj
  · have e0 : leastS l p = (0, 0, 1) := by unfold leastS; rw [if_neg (fun h => hok h.1)]
    rw [e0]
    simp only [hok]; exact hj
end Go.Proofs.Ytljgloljncokeaa.PQa
