/- The law VerdictSome, of what the program computes: where tasks do not fit an interface, there is a tick for which they do not. No condition. -/
import Derived.Test.YtljgloljncokeaaQa11
import Derived.Test.YtljgloljncokeaaMv
import Derived.Test.YtljgloljncokeaaQaOpens
namespace Go.Proofs.Ytljgloljncokeaa.PQa
open Go.RowKit Go.Proofs.YtljgloljncokeaaW.PrintWords Go.Proofs.YtljgloljncokeaaW.PrintLast Go.Proofs.YtljgloljncokeaaW.PrintMore

theorem knows10c : Ev (fun k => (remontoirlaw10_knows.f k).bind fun t => some t) true := Ev.bind knows10 (Ev.now _)
/-- Tasks that ask for more than is given in a cycle: behind as many cycles as the end leaves ticks they do not fit. -/
theorem some_far {l : List (S41)} {p b c far : Int} (hok : okAll l = true) (hf : okFace p b = true) (e : cycS l p (2 * p) = some (c, far)) (hc : 1 ≤ c) (hfar : 2 * p ≤ far) :
    ∀ m : Int, 0 ≤ m → dbf l (c + far + c * m) = dbf l (c + far) + asked l c * m ∧ sbf p b (c + far + c * m) = sbf p b (c + far) + c / p * b * m := by
  obtain ⟨hokT, _⟩ := okAll_parts hok
  obtain ⟨d1, d2, d3⟩ := cycS_facts e
  have hpp := okFace_iff.mp hf
  have key : ∀ n : Nat, dbf l (c + far + c * n) = dbf l (c + far) + asked l c * n ∧ sbf p b (c + far + c * n) = sbf p b (c + far) + c / p * b * n := by
    intro n
    induction n with
    | zero => simp
    | succ n ih =>
      have hcn : 0 ≤ c * (n : Int) := Int.mul_nonneg (by omega) (by omega)
      have hD : ∀ s ∈ l, s.f1 ≤ c + far + c * n := fun s hs => by have := (d3 s hs).2; omega
      have e1 := dbf_cycle (c := c) (x := c + far + c * n) hokT (fun s hs => ⟨hD s hs, (d3 s hs).1⟩) (by omega)
      have e2 := sbf_cycle (x := c + far + c * n) hf d1 (by omega) (by omega)
      have e3 : c + far + c * ((n + 1 : Nat) : Int) = c + far + c * n + c := by push_cast; rw [Int.mul_add]; omega
      have e4 : ∀ q : Int, q * ((n + 1 : Nat) : Int) = q * n + q := fun q => by push_cast; rw [Int.mul_add]; omega
      rw [e3, e1, e2, ih.1, ih.2, e4, e4]
      constructor <;> omega
  intro m hm
  have := key m.toNat
  rwa [show ((m.toNat : Nat) : Int) = m by omega] at this
theorem j2_some {l : List (S41)} {p b t : Int} (hok : okAll l = true) (hf : okFace p b = true) (ht : 0 ≤ t ∧ t ≤ 1125899906842624) (hn : sbf p b t < need l t) : Ev (fun k => remontoirlaw10_VerdictSome.j2 k l t p b) true := by
  have hN : Ev (fun k => verdict_Need.f k l t) (need l t, 0) := ⟨3, fun k hk => by obtain ⟨m, rfl⟩ : ∃ m, k = m + 3 := ⟨k - 3, by omega⟩; exact verdict_Need.ev m l t hok ht⟩
  have hS : Ev (fun k => supply_Bound.f k p b t) (sbf p b t, 0) := ⟨1, fun k hk => by obtain ⟨m, rfl⟩ : ∃ m, k = m + 1 := ⟨k - 1, by omega⟩; exact supply_Bound.ev m _ _ t hf ⟨ht.1, by omega⟩⟩
  have hd : demand_Bound.f l t = some (dbf l t, 0) := by unfold demand_Bound.f; rw [if_pos ⟨hok, ht.1, ht.2⟩]
  have hle : dbf l t ≤ need l t := by have := blk_bd (t := t) (okAll_parts hok).1; unfold need; omega
  refine Ev.step (f := fun k => ((verdict_Need.f k l t).bind fun bt237 => ((supply_Bound.f k p b t).bind fun bt239 => (if (0 : Int) = 0 then (if bt237.2 = 0 then (if bt239.2 = 0 then (if dbf l t ≤ bt237.1 then (if bt237.1 > bt239.1 then ((remontoirlaw10_knows.f k).bind fun t241 => (some t241)) else (some false)) else (some false)) else (some false)) else (some false)) else (some false))))) (fun k => ?_) (Ev.bind hN (Ev.bind hS ?_))
  · simp only [remontoirlaw10_VerdictSome.j2]
    rw [hd]
    rfl
  · have h1 : need l t > sbf p b t := hn
    simp only [hle, h1, if_true]
    exact knows10c
theorem pureVerdictSome : ∀ (z0 : List (S41)) (x1 : S24), ((∀ y ∈ z0, ok41 y) ∧ z0.length ≤ 9223372036854775807) → ok24 x1 → ∃ k : Nat, remontoirlaw10_VerdictSome.f k z0 x1.f0 x1.f1 = some true := by
  intro l x hl _
  refine Ev.rounds (g := fun k => remontoirlaw10_VerdictSome.f k l x.f0 x.f1) ?_
  refine Ev.congr (fun k => rfl) (Ev.bind (remontoirlaw05_Great.ev l hl.2) (f := fun k b => if b = true then ((remontoirlaw10_knows.f k).bind fun t221 => (some t221)) else ((verdict_Fits.f k l x.f0 x.f1).bind fun bt222 => (if bt222.1 = true then (remontoirlaw10_VerdictSome.j0 k l bt222.1 bt222.2 true x.f0 x.f1) else (remontoirlaw10_VerdictSome.j0 k l bt222.1 bt222.2 (bt222.2 != 0) x.f0 x.f1)))) ?_)
  by_cases hg : greatS l = true
  · simp only [hg, if_true]; exact knows10c
  · have hg' : greatS l = false := by simpa using hg
    have hlen := greatS_len hg'
    simp only [hg']
    refine Ev.bind (verdict_Fits.ev l x.f0 x.f1 (by omega)) ?_
    by_cases hfit : (fitsR l x.f0 x.f1).1 = true
    · simp only [hfit, if_true]
      refine Ev.step (fun k => ?_) knows10c
      simp only [remontoirlaw10_VerdictSome.j0]
      rw [if_pos trivial, if_pos trivial]
    · have hfit' : (fitsR l x.f0 x.f1).1 = false := by simpa using hfit
      simp only [hfit']
      by_cases he : (fitsR l x.f0 x.f1).2 = 0
      · have hb : ((fitsR l x.f0 x.f1).2 != 0) = false := by rw [he]; rfl
        rw [hb]
        have hcz : (cycF l x.f0 x.f1).2.2 = 0 := by
          unfold fitsR at he
          by_cases h : (cycF l x.f0 x.f1).2.2 = 0
          · exact h
          · rw [if_neg h] at he; exact he
        obtain ⟨hok, hface, c, far, e, e2, h1, h2, h3⟩ := cycF_ok hcz
        have hpp := okFace_iff.mp hface
        have hcyc := remontoirref10_Cycle.ev l x.f0 x.f1 (by omega)
        have hF : verdict_First.f l x.f0 x.f1 = some (firstR l x.f0 x.f1) := by unfold verdict_First.f; rw [if_pos (by omega)]
        have hfr : firstR l x.f0 x.f1 = headR (failsL l x.f0 x.f1 (c + far + 1).toNat) := by unfold firstR; rw [e2, if_pos rfl]
        have hj1 : Ev (fun k => remontoirlaw10_VerdictSome.j1 k l c (c + far) (firstR l x.f0 x.f1).1 (firstR l x.f0 x.f1).2.1 false x.f0 x.f1) true := by
          rw [hfr]
          cases hL : failsL l x.f0 x.f1 (c + far + 1).toNat with
          | cons t r =>
            obtain ⟨t0, t1, t2⟩ := failsL_cons hL
            refine Ev.step (fun k => ?_) (j2_some (t := t) hok hface ⟨t0, by omega⟩ t2)
            simp only [remontoirlaw10_VerdictSome.j1, headR]
            rw [if_neg (by simp), if_pos trivial]
          | nil =>
            have hbig : asked l c > c / x.f0 * x.f1 := by
              unfold fitsR at hfit'
              rw [if_pos hcz, e2] at hfit'
              dsimp only at hfit'
              by_cases ha : asked l c > c / x.f0 * x.f1
              · exact ha
              · rw [if_neg ha, hfr, hL] at hfit'; simp [headR] at hfit'
            have hs := sbf_bd (t := c + far) hface (by omega)
            obtain ⟨m1, m2⟩ := some_far hok hface e h1 h2 (sbf x.f0 x.f1 (c + far) + 1) (by omega)
            have hS : Ev (fun k => supply_Bound.f k x.f0 x.f1 (c + far)) (sbf x.f0 x.f1 (c + far), 0) := ⟨1, fun k hk => by obtain ⟨m, rfl⟩ : ∃ m, k = m + 1 := ⟨k - 1, by omega⟩; exact supply_Bound.ev m _ _ _ hface ⟨by omega, by omega⟩⟩
            have q0 : 0 ≤ c * (sbf x.f0 x.f1 (c + far) + 1) := Int.mul_nonneg (by omega) (by omega)
            have q1 : c * (sbf x.f0 x.f1 (c + far) + 1) ≤ 3000 * 3001 := Int.mul_le_mul (by omega) (by omega) (by omega) (by omega)
            have hd0 := dbf_bd (x := c + far) (by omega) (okAll_parts hok).1
            have hk0 := blk_bd (t := c + far + c * (sbf x.f0 x.f1 (c + far) + 1)) (okAll_parts hok).1
            have hmul : (c / x.f0 * x.f1 + 1) * (sbf x.f0 x.f1 (c + far) + 1) ≤ asked l c * (sbf x.f0 x.f1 (c + far) + 1) := Int.mul_le_mul_of_nonneg_right (by omega) (by omega)
            rw [Int.add_mul, Int.one_mul] at hmul
            have hneed : sbf x.f0 x.f1 (c + far + c * (sbf x.f0 x.f1 (c + far) + 1)) < need l (c + far + c * (sbf x.f0 x.f1 (c + far) + 1)) := by
              unfold need; rw [m1, m2]; omega
            refine Ev.step (f := fun k => (supply_Bound.f k x.f0 x.f1 (c + far)).bind fun bt => remontoirlaw10_VerdictSome.j2 k l (wrap64 (c + far + wrap64 (c * wrap64 (bt.1 + 1)))) x.f0 x.f1) (fun k => ?_) (Ev.bind hS ?_)
            · simp only [remontoirlaw10_VerdictSome.j1, headR]
              rfl
            · rw [w64 (n := sbf x.f0 x.f1 (c + far) + 1) (by omega), w64 (n := c * (sbf x.f0 x.f1 (c + far) + 1)) (by omega), w64 (by omega)]
              exact j2_some hok hface ⟨by omega, by omega⟩ hneed
        have h22 : (firstR l x.f0 x.f1).2.2 = 0 := by rw [hfr]; cases failsL l x.f0 x.f1 (c + far + 1).toNat <;> rfl
        refine Ev.step (f := fun k => (remontoirref10_Cycle.f k l x.f0 x.f1).bind fun bt227 => (if bt227.2.2 = 0 then remontoirlaw10_VerdictSome.j1 k l bt227.1 bt227.2.1 (firstR l x.f0 x.f1).1 (firstR l x.f0 x.f1).2.1 ((firstR l x.f0 x.f1).2.2 != 0) x.f0 x.f1 else remontoirlaw10_VerdictSome.j1 k l bt227.1 bt227.2.1 (firstR l x.f0 x.f1).1 (firstR l x.f0 x.f1).2.1 true x.f0 x.f1)) (fun k => ?_) (Ev.bind hcyc ?_)
        · simp only [remontoirlaw10_VerdictSome.j0]
          rw [hF]
          rfl
        · rw [e2, h22]
          exact hj1
      · have hb : ((fitsR l x.f0 x.f1).2 != 0) = true := bne_iff_ne.mpr he
        rw [hb]
        rcases fitsR_err l x.f0 x.f1 with h | h | h
        · exact absurd h he
        · refine Ev.step (fun k => ?_) knows10c
          simp only [remontoirlaw10_VerdictSome.j0]
          rw [if_pos trivial, if_pos h]
          rfl
        · refine Ev.step (fun k => ?_) knows10c
          simp only [remontoirlaw10_VerdictSome.j0]
          rw [if_pos trivial, h]
          rfl
end Go.Proofs.Ytljgloljncokeaa.PQa
