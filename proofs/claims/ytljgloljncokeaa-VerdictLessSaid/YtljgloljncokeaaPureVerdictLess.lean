/- The law VerdictLess, of what the program computes: what fits, fits without any one task, if there are no sections; and with a greater budget. No condition. -/
import Derived.Test.YtljgloljncokeaaQa12
import Derived.Test.YtljgloljncokeaaMv
import Derived.Test.YtljgloljncokeaaQaOpens
namespace Go.Proofs.Ytljgloljncokeaa.PQa
open Go.RowKit Go.Proofs.YtljgloljncokeaaW.PrintWords Go.Proofs.YtljgloljncokeaaW.PrintLast Go.Proofs.YtljgloljncokeaaW.PrintMore

theorem knows10d : Ev (fun k => (remontoirlaw10_knows.f k).bind fun t => some t) true := Ev.bind knows10 (Ev.now _)
theorem sbf_mono {p b b2 t : Int} (h : okFace p b = true) (h2 : okFace p b2 = true) (hb : b ≤ b2) (ht : 0 ≤ t) : sbf p b t ≤ sbf p b2 t := by
  rw [okFace_iff] at h h2
  have hs := (sbf_bd (okFace_iff.mpr h2) ht).1
  have key : ∀ q r q2 r2 : Int, t = q * p + r + (p - b) → 0 ≤ r → r < p → t = q2 * p + r2 + (p - b2) → 0 ≤ r2 → r2 < p → 0 ≤ q → 0 ≤ q2 → q * b + max 0 (r - (p - b)) ≤ q2 * b2 + max 0 (r2 - (p - b2)) := by
    intro q r q2 r2 e1 r0 r1 e2 s0 s1 q0 q20
    have hq : q2 = q ∨ q2 = q + 1 := by
      have e : q2 * p + r2 = q * p + r + (b2 - b) := by omega
      have hlt : q2 < q + 2 := by
        by_cases hc : q2 < q + 2
        · exact hc
        · exfalso
          have : (q + 2) * p ≤ q2 * p := Int.mul_le_mul_of_nonneg_right (by omega) (by omega)
          rw [Int.add_mul] at this; omega
      have hge : q ≤ q2 := by
        by_cases hc : q ≤ q2
        · exact hc
        · exfalso
          have : (q2 + 1) * p ≤ q * p := Int.mul_le_mul_of_nonneg_right (by omega) (by omega)
          rw [Int.add_mul] at this; omega
      omega
    rcases hq with rfl | rfl
    · have h3 : q2 * b ≤ q2 * b2 := Int.mul_le_mul_of_nonneg_left hb q20
      omega
    · have h3 : q * b ≤ q * b2 := Int.mul_le_mul_of_nonneg_left hb q0
      have h4 : (q + 1) * p = q * p + p := by rw [Int.add_mul]; omega
      have h5 : (q + 1) * b2 = q * b2 + b2 := by rw [Int.add_mul]; omega
      omega
  unfold sbf at hs ⊢
  by_cases h4 : t < p - b2
  · rw [if_pos h4, if_pos (by omega)]; omega
  · by_cases h5 : t < p - b
    · rw [if_pos h5]; exact hs
    · rw [if_neg h5, if_neg h4]
      have c1 : p * ((t - (p - b)) / p) + (t - (p - b)) % p = t - (p - b) := Int.mul_ediv_add_emod _ _
      have c2 : p * ((t - (p - b2)) / p) + (t - (p - b2)) % p = t - (p - b2) := Int.mul_ediv_add_emod _ _
      have c3 : p * ((t - (p - b)) / p) = (t - (p - b)) / p * p := Int.mul_comm _ _
      have c4 : p * ((t - (p - b2)) / p) = (t - (p - b2)) / p * p := Int.mul_comm _ _
      have q0 : 0 ≤ (t - (p - b)) / p := Int.ediv_nonneg (by omega) (by omega)
      have q1 : 0 ≤ (t - (p - b2)) / p := Int.ediv_nonneg (by omega) (by omega)
      have r0 : 0 ≤ (t - (p - b)) % p := Int.emod_nonneg _ (by omega)
      have r1 : (t - (p - b)) % p < p := Int.emod_lt_of_pos _ (by omega)
      have s0 : 0 ≤ (t - (p - b2)) % p := Int.emod_nonneg _ (by omega)
      have s1 : (t - (p - b2)) % p < p := Int.emod_lt_of_pos _ (by omega)
      have := key _ _ _ _ (by omega) r0 r1 (show t = (t - (p - b2)) / p * p + (t - (p - b2)) % p + (p - b2) by omega) s0 s1 q0 q1
      omega
/-- From the parts: tasks fit. -/
theorem fits_of {l : List (S41)} {p b c far : Int} (hok : okAll l = true) (hf : okFace p b = true) (e : cycS l p (2 * p) = some (c, far)) (ha : asked l c ≤ c / p * b) (h : ∀ t : Int, 0 ≤ t → need l t ≤ sbf p b t) : fitsR l p b = (true, 0) := by
  have ec : cycF l p b = (c, c + far, 0) := by unfold cycF; rw [if_pos ⟨hok, hf⟩, e]; rfl
  have hL : failsL l p b (c + far + 1).toNat = [] := by
    cases hL : failsL l p b (c + far + 1).toNat with
    | nil => rfl
    | cons x r =>
      obtain ⟨x0, x1, x2⟩ := failsL_cons hL
      have := h x x0
      omega
  have hr : firstR l p b = (0, false, 0) := by unfold firstR; rw [ec, if_pos rfl, hL]; rfl
  unfold fitsR
  rw [ec]
  dsimp only
  rw [if_pos rfl, if_neg (by omega), hr]
  rfl
theorem fits_greater {l : List (S41)} {p b b2 : Int} (h : (fitsR l p b).1 = true) (hb : b ≤ b2) (hp : b2 ≤ p) : fitsR l p b2 = (true, 0) := by
  obtain ⟨hok, hf, _, c, far, e, h1, h2, h3, ha, _⟩ := fits_parts h
  have hpp := okFace_iff.mp hf
  have hf2 : okFace p b2 = true := okFace_iff.mpr ⟨by omega, hp, by omega⟩
  have hc0 : 0 ≤ c / p := Int.ediv_nonneg (by omega) (by omega)
  have hm : c / p * b ≤ c / p * b2 := Int.mul_le_mul_of_nonneg_left hb hc0
  exact fits_of hok hf2 e (by omega) (fun t ht => Int.le_trans (fits_all h t ht) (sbf_mono hf hf2 hb ht))
theorem blk_plain {l : List (S41)} {t : Int} (h : ∀ x ∈ l, x.f3 = []) : blk l t = 0 := by
  have key : ∀ (q : List (S41)) (m : Int), (∀ s ∈ q, s.f3 = []) → q.foldl (blkT l t) m = m := by
    intro q
    induction q with
    | nil => intro m _; rfl
    | cons s q ih =>
      intro m hq
      have e : blkT l t m s = m := by unfold blkT; rw [hq s List.mem_cons_self]; simp
      rw [List.foldl_cons, e]
      exact ih m (fun y hy => hq y (List.mem_cons_of_mem _ hy))
  exact key l 0 h
theorem asked_scale {c c2 : Int} : ∀ {l : List (S41)}, (∀ s ∈ l, okT s = true) → (∀ s ∈ l, s.f2 ∣ c) → c ∣ c2 → asked l c2 * c = asked l c * c2
  | [], _, _, _ => by simp [asked]
  | s :: l, hok, h, hd => by
    have ih := asked_scale (l := l) (fun y hy => hok y (List.mem_cons_of_mem _ hy)) (fun y hy => h y (List.mem_cons_of_mem _ hy)) hd
    have hs := okTask_nums (hok s List.mem_cons_self)
    obtain ⟨u, hu⟩ := h s List.mem_cons_self
    obtain ⟨v, hv⟩ := hd
    have q1 : c / s.f2 = u := by rw [hu]; exact Int.mul_ediv_cancel_left _ (by omega)
    have q2 : c2 / s.f2 = u * v := by rw [hv, hu, Int.mul_assoc]; exact Int.mul_ediv_cancel_left _ (by omega)
    have e3 : ∀ y, asked (s :: l) y = y / s.f2 * s.f0 + asked l y := fun y => by simp [asked]
    rw [e3, e3, Int.add_mul, Int.add_mul, ih, q1, q2]
    congr 1
    rw [hv]
    rw [Int.mul_assoc u v s.f0, Int.mul_comm v s.f0, ← Int.mul_assoc, Int.mul_assoc (u * s.f0) v c, Int.mul_comm v c, ← Int.mul_assoc]
theorem asked_le {c : Int} (hc : 0 ≤ c ∧ c ≤ 3000) : ∀ {l m : List (S41)}, l.Sublist m → (∀ s ∈ m, okT s = true) → asked l c ≤ asked m c := by
  intro l m h
  induction h with
  | slnil => intro _; exact Int.le_refl _
  | cons x h ih =>
    intro hok
    have hx := okTask_nums (hok x List.mem_cons_self)
    have hj := ask_bd (t := x.f2) (x := x.f0) hc (by omega) (by omega)
    have := ih (fun y hy => hok y (List.mem_cons_of_mem _ hy))
    have e : ∀ q, asked (x :: q) c = c / x.f2 * x.f0 + asked q c := fun q => by simp [asked]
    rw [e]; omega
  | cons_cons x h ih =>
    intro hok
    have := ih (fun y hy => hok y (List.mem_cons_of_mem _ hy))
    have e : ∀ q, asked (x :: q) c = c / x.f2 * x.f0 + asked q c := fun q => by simp [asked]
    rw [e, e]; omega
theorem dbf_le {t : Int} (ht : 0 ≤ t) : ∀ {l m : List (S41)}, l.Sublist m → (∀ s ∈ m, okT s = true) → dbf l t ≤ dbf m t := by
  intro l m h
  induction h with
  | slnil => intro _; exact Int.le_refl _
  | cons x h ih =>
    intro hok
    have hx := okTask_nums (hok x List.mem_cons_self)
    have hj := jobsN_bd (d := x.f1) (t := x.f2) (x := t) (by omega) (by omega) ht
    have h0 : 0 ≤ x.f0 * jobsN x.f1 x.f2 t := Int.mul_nonneg (by omega) hj.1
    have := ih (fun y hy => hok y (List.mem_cons_of_mem _ hy))
    have e : ∀ q, dbf (x :: q) t = x.f0 * jobsN x.f1 x.f2 t + dbf q t := fun q => by simp [dbf]
    rw [e]; omega
  | cons_cons x h ih =>
    intro hok
    have := ih (fun y hy => hok y (List.mem_cons_of_mem _ hy))
    have e : ∀ q, dbf (x :: q) t = x.f0 * jobsN x.f1 x.f2 t + dbf q t := fun q => by simp [dbf]
    rw [e, e]; omega
/-- Without some tasks, where there are no sections: they still fit. -/
theorem fits_fewer {l m : List (S41)} {p b : Int} (hs : l.Sublist m) (h : (fitsR m p b).1 = true) (hplain : ∀ x ∈ m, x.f3 = []) : fitsR l p b = (true, 0) := by
  obtain ⟨hok, hf, _, c, far, e, h1, h2, h3, ha, _⟩ := fits_parts h
  obtain ⟨hokT, hl8⟩ := okAll_parts hok
  have hpp := okFace_iff.mp hf
  have hokL : ∀ x ∈ l, okT x = true := fun x hx => hokT x (hs.subset hx)
  have hl : okAll l = true := by
    have := hs.length_le
    simp only [okAll, Bool.and_eq_true, List.all_eq_true, decide_eq_true_eq]
    exact ⟨hokL, by omega⟩
  have em := cycS_eq m p (2 * p) hokT (by omega) (by omega)
  have el := cycS_eq l p (2 * p) hokL (by omega) (by omega)
  rw [em] at e
  by_cases hc : lcmAll m p + farAll m (2 * p) ≤ 3000
  · rw [if_pos hc] at e
    obtain ⟨rfl, rfl⟩ := Prod.mk.inj (Option.some.inj e)
    obtain ⟨m1, m2, m3, m4⟩ := lcmAll_facts m p hokT (by omega)
    obtain ⟨l1, l2, l3, l4⟩ := lcmAll_facts l p hokL (by omega)
    have hdv : lcmAll l p ∣ lcmAll m p := l4 _ m2 (fun x hx => m3 x (hs.subset hx))
    have hle := Int.le_of_dvd (by omega) hdv
    have hfar : farAll l (2 * p) ≤ farAll m (2 * p) := by
      have mono : ∀ (q : List (S41)) (a b : Int), a ≤ b → farAll q a ≤ farAll q b := by
        intro q
        induction q with
        | nil => intro a b hab; exact hab
        | cons y q ih => intro a b hab; unfold farAll; exact ih _ _ (by omega)
      have sub : ∀ {q r : List (S41)}, q.Sublist r → ∀ a, farAll q a ≤ farAll r a := by
        intro q r h
        induction h with
        | slnil => intro a; exact Int.le_refl _
        | cons y h ih => intro a; conv => rhs; unfold farAll
                         exact Int.le_trans (ih a) (mono _ _ _ (by omega))
        | cons_cons y h ih => intro a; unfold farAll; exact ih _
      exact sub hs _
    rw [if_pos (by omega)] at el
    refine fits_of hl hf el ?_ (fun t ht => ?_)
    · obtain ⟨v, hv⟩ := hdv
      have sc := asked_scale (c := lcmAll l p) (c2 := lcmAll m p) hokL l3 ⟨v, hv⟩
      have v1 : 1 ≤ v := by
        by_cases hv1 : 1 ≤ v
        · exact hv1
        · exfalso
          have : lcmAll l p * v ≤ lcmAll l p * 0 := Int.mul_le_mul_of_nonneg_left (by omega) (by omega)
          rw [Int.mul_zero] at this; omega
      have a1 := asked_le (c := lcmAll m p) ⟨by omega, by omega⟩ hs hokT
      have q1 : asked l (lcmAll m p) = asked l (lcmAll l p) * v := by
        have h5 : asked l (lcmAll m p) * lcmAll l p = asked l (lcmAll l p) * v * lcmAll l p := by rw [sc, hv, Int.mul_assoc, Int.mul_comm (lcmAll l p) v]
        exact Int.eq_of_mul_eq_mul_right (by omega) h5
      have q2 : lcmAll m p / p = lcmAll l p / p * v := by
        obtain ⟨u, hu⟩ := l2
        rw [hv, hu, Int.mul_assoc, Int.mul_ediv_cancel_left _ (by omega), Int.mul_ediv_cancel_left _ (by omega)]
      rw [q2, Int.mul_assoc, Int.mul_comm v b, ← Int.mul_assoc] at ha
      exact Int.le_of_mul_le_mul_right (by omega) (show 0 < v by omega)
    · have h6 := fits_all h t ht
      have b1 : blk l t = 0 := blk_plain (fun x hx => hplain x (hs.subset hx))
      have b2 : blk m t = 0 := blk_plain hplain
      have d1 := dbf_le ht hs hokT
      unfold need at h6 ⊢
      omega
  · rw [if_neg hc] at e; cases e
/-- The tasks but the q-th, if the first of these is the i-th. -/
def lessL (q : Int) : Int → List (S41) → List (S41)
  | _, [] => []
  | i, s :: r => if i = q then lessL q (i + 1) r else s :: lessL q (i + 1) r
theorem lessL_sub (q : Int) : ∀ (l : List (S41)) (i : Int), (lessL q i l).Sublist l
  | [], _ => List.Sublist.refl _
  | s :: r, i => by
    unfold lessL
    split
    · exact (lessL_sub q r _).cons _
    · exact (lessL_sub q r _).cons_cons _
/-- Whether there are no sections. -/
def plainS (l : List (S41)) : Bool := l.all fun s => (s.f3.length : Int) == 0
theorem plainS_nil {l : List (S41)} (h : plainS l = true) : ∀ x ∈ l, x.f3 = [] := by
  intro x hx
  have h1 := (List.all_eq_true.1 h) x hx
  rw [beq_iff_eq] at h1
  exact List.eq_nil_of_length_eq_zero (by omega)
theorem less_end {l less : List (S41)} {p b q : Int} {flag : Bool} (h : (fitsR l p b).1 = true) (hs : less.Sublist l) (hflag : flag = plainS l) (hlen : l.length ≤ 20) :
    Ev (fun k => remontoirlaw10_VerdictLess.l0 k l 0 q less flag (l.length : Int) p b) true := by
  obtain ⟨hok, hf, _, c, far, e, _⟩ := fits_parts h
  have hpp := okFace_iff.mp hf
  have hsl := hs.length_le
  have f1 := verdict_Fits.ev less p b (by omega)
  have f2 := verdict_Fits.ev l p (b + 1) (by omega)
  refine Ev.step (f := fun k => (verdict_Fits.f k less p b).bind fun bt259 => ((verdict_Fits.f k l p (b + 1)).bind fun bt261 => (if b + 1 ≤ p then (if bt261.1 = true then (if bt261.2 = 0 then (if flag = true then (if bt259.1 = true then ((remontoirlaw10_knows.f k).bind fun t263 => (some t263)) else (if bt259.2 = 5 then ((remontoirlaw10_knows.f k).bind fun t264 => (some t264)) else (some false))) else ((remontoirlaw10_knows.f k).bind fun t265 => (some t265))) else (some false)) else (some false)) else (if flag = true then (if bt259.1 = true then ((remontoirlaw10_knows.f k).bind fun t266 => (some t266)) else (if bt259.2 = 5 then ((remontoirlaw10_knows.f k).bind fun t267 => (some t267)) else (some false))) else ((remontoirlaw10_knows.f k).bind fun t268 => (some t268)))))) (fun k => ?_) (Ev.bind f1 (Ev.bind f2 ?_))
  · simp only [remontoirlaw10_VerdictLess.l0]
    rw [if_neg (by omega), w64 (by omega)]
    rfl
  · have hfl : flag = true → (fitsR less p b).1 = true := fun hf1 => by rw [fits_fewer hs h (plainS_nil (hflag ▸ hf1))]
    by_cases hbp : b + 1 ≤ p
    · rw [fits_greater h (show b ≤ b + 1 by omega) hbp]
      simp only [hbp, if_true]
      by_cases hf1 : flag = true
      · simp only [hf1, hfl hf1, if_true]; exact knows10d
      · simp only [hf1]; exact knows10d
    · simp only [hbp, if_false]
      by_cases hf1 : flag = true
      · simp only [hf1, hfl hf1, if_true]; exact knows10d
      · simp only [hf1]; exact knows10d
theorem less_loop {l : List (S41)} {p b q : Int} (h : (fitsR l p b).1 = true) (hlen : l.length ≤ 20) : ∀ (rest pre acc : List (S41)) (flag : Bool), pre ++ rest = l → acc.length ≤ pre.length → (acc ++ lessL q (pre.length : Int) rest).Sublist l → (flag && plainS rest) = plainS l →
    Ev (fun k => remontoirlaw10_VerdictLess.l0 k l 0 q acc flag (pre.length : Int) p b) true := by
  intro rest
  induction rest with
  | nil =>
    intro pre acc flag he _ hs hflag
    rw [List.append_nil] at he
    subst he
    unfold lessL at hs
    rw [List.append_nil] at hs
    exact less_end h hs (by simpa [plainS] using hflag) hlen
  | cons s rest ih =>
    intro pre acc flag he ha hs hflag
    subst he
    have hl : pre.length ≤ 20 := by simp at hlen; omega
    have e : rd_T41 (pre ++ s :: rest) (pre.length : Int) = s := getD_mid _ _ _ _
    have hw : wrap64 ((pre.length : Int) + 1) = ((pre ++ [s]).length : Int) := by rw [wrap_succ _ (by omega)]; simp
    have hps : plainS (s :: rest) = (((s.f3.length : Int) == 0) && plainS rest) := rfl
    have hnew : ((if flag = true then ((s.f3.length : Int) == 0) else false) && plainS rest) = plainS (pre ++ s :: rest) := by
      rw [← hflag, hps]; cases flag <;> simp
    have hi : (((pre ++ [s]).length : Nat) : Int) = (pre.length : Int) + 1 := by simp
    by_cases hq : (pre.length : Int) = q
    · have ih2 := ih (pre ++ [s]) acc (if flag = true then ((s.f3.length : Int) == 0) else false) (by simp) (by simp; omega) (by rw [hi]; simpa [lessL, hq] using hs) hnew
      refine Ev.step (fun k => ?_) ih2
      simp only [remontoirlaw10_VerdictLess.l0]
      rw [if_pos (len_mid _ _ _), hw, e]
      cases flag
      · simp only [hq, if_true]
        rfl
      · rw [if_pos rfl, if_pos (by omega), if_pos hq]
        rfl
    · have ih2 := ih (pre ++ [s]) (acc ++ [s]) (if flag = true then ((s.f3.length : Int) == 0) else false) (by simp) (by simp; omega) (by rw [hi]; simpa [lessL, hq] using hs) hnew
      refine Ev.step (fun k => ?_) ih2
      simp only [remontoirlaw10_VerdictLess.l0]
      rw [if_pos (len_mid _ _ _), hw, e]
      cases flag
      · rw [if_neg (by simp), if_neg hq, if_pos (by omega), if_pos (by omega)]
        rfl
      · rw [if_pos rfl, if_pos (by omega), if_neg hq, if_pos (by omega)]
        rfl
theorem pureVerdictLess : ∀ (z0 : List (S41)) (x1 : S24) (a2 : Int), ((∀ y ∈ z0, ok41 y) ∧ z0.length ≤ 9223372036854775807) → ok24 x1 → (Lit.int .u8 a2).wf = true → ∃ k : Nat, remontoirlaw10_VerdictLess.f k z0 x1.f0 x1.f1 a2 = some true := by
  intro l x a2 hl _ _
  refine Ev.rounds (g := fun k => remontoirlaw10_VerdictLess.f k l x.f0 x.f1 a2) ?_
  refine Ev.congr (fun k => rfl) (Ev.bind (remontoirlaw05_Great.ev l hl.2) (f := fun k t => if t = true then (remontoirlaw10_VerdictLess.j0 k l a2 true x.f0 x.f1) else (remontoirlaw10_VerdictLess.j0 k l a2 ((l.length : Int) == 0) x.f0 x.f1)) ?_)
  have hknow : Ev (fun k => remontoirlaw10_VerdictLess.j0 k l a2 true x.f0 x.f1) true := by
    refine Ev.step (fun k => ?_) knows10d
    simp only [remontoirlaw10_VerdictLess.j0]
    rw [if_pos trivial]
  by_cases hg : greatS l = true
  · simp only [hg, if_true]; exact hknow
  · have hg' : greatS l = false := by simpa using hg
    have hlen := greatS_len hg'
    simp only [hg', Bool.false_eq_true, if_false]
    by_cases h0 : (l.length : Int) = 0
    · rw [show ((l.length : Int) == 0) = true from beq_iff_eq.mpr h0]; exact hknow
    · rw [show ((l.length : Int) == 0) = false from beq_eq_false_iff_ne.mpr h0]
      refine Ev.step (f := fun k => (verdict_Fits.f k l x.f0 x.f1).bind fun bt245 => (if bt245.1 = true then (if (l.length : Int) = 0 then (none) else (remontoirlaw10_VerdictLess.l0 k l bt245.2 (Int.tmod (wrap64 a2) (l.length : Int)) ([] : List (S41)) true 0 x.f0 x.f1)) else (if bt245.2 = 0 then ((remontoirlaw10_knows.f k).bind fun t247 => (some t247)) else (if bt245.2 = 1 then ((remontoirlaw10_knows.f k).bind fun t248 => (some t248)) else (if bt245.2 = 5 then ((remontoirlaw10_knows.f k).bind fun t249 => (some t249)) else (some false)))))) (fun k => ?_) (Ev.bind (verdict_Fits.ev l x.f0 x.f1 (by omega)) ?_)
      · simp only [remontoirlaw10_VerdictLess.j0]
        rfl
      · by_cases hfit : (fitsR l x.f0 x.f1).1 = true
        · obtain ⟨_, _, h20, _⟩ := fits_parts hfit
          simp only [hfit, if_true, h0, if_false, h20]
          exact less_loop hfit hlen l [] [] true rfl (by simp) (by simpa using lessL_sub _ l _) (by simp)
        · simp only [hfit]
          rcases fitsR_err l x.f0 x.f1 with h | h | h
          · simp only [h, if_true]; exact knows10d
          · simp only [h, if_true, show ¬ ((1 : Int) = 0) by decide, if_false]; exact knows10d
          · simp only [h, if_true, show ¬ ((5 : Int) = 0) by decide, show ¬ ((5 : Int) = 1) by decide, if_false]; exact knows10d
end Go.Proofs.Ytljgloljncokeaa.PQa
