/- Of the least interface, as the program finds it: what the search by halves finds is the least budget that is enough. No condition. -/
import Derived.Test.YtljgloljncokeaaQa12
import Derived.Test.YtljgloljncokeaaQa12
import Derived.Test.YtljgloljncokeaaMv
namespace Go.Proofs.Ytljgloljncokeaa.PQa
open Go.RowKit Go.Proofs.YtljgloljncokeaaW.PrintWords Go.Proofs.YtljgloljncokeaaW.PrintLast Go.Proofs.YtljgloljncokeaaW.PrintMore
theorem halfS_spec {l : List (S41)} {p : Int} : ∀ (n : Nat) (lo hi : Int), 1 ≤ lo → lo ≤ hi → hi ≤ p → hi - lo ≤ n → (fitsR l p hi).1 = true → (∀ c, 1 ≤ c → c < lo → (fitsR l p c).1 = false) →
    lo ≤ halfS l p n lo hi ∧ halfS l p n lo hi ≤ hi ∧ (fitsR l p (halfS l p n lo hi)).1 = true ∧ ∀ c, 1 ≤ c → c < halfS l p n lo hi → (fitsR l p c).1 = false
  | 0, lo, hi, h1, h2, h3, h4, hf, hn => by
    have e : lo = hi := by omega
    subst e
    unfold halfS
    exact ⟨by omega, by omega, hf, hn⟩
  | n + 1, lo, hi, h1, h2, h3, h4, hf, hn => by
    unfold halfS
    by_cases hlt : lo < hi
    · rw [if_pos hlt]
      by_cases hm : (fitsR l p (lo + (hi - lo) / 2)).1 = true
      · rw [if_pos hm]
        obtain ⟨a1, a2, a3, a4⟩ := halfS_spec n lo (lo + (hi - lo) / 2) h1 (by omega) (by omega) (by omega) hm hn
        exact ⟨a1, by omega, a3, a4⟩
      · rw [if_neg hm]
        obtain ⟨a1, a2, a3, a4⟩ := halfS_spec n (lo + (hi - lo) / 2 + 1) hi (by omega) (by omega) h3 (by omega) hf (fun c c1 c2 => by
          by_cases hc : (fitsR l p c).1 = true
          · exact absurd (by rw [fits_greater hc (show c ≤ lo + (hi - lo) / 2 by omega) (by omega)]) hm
          · simpa using hc)
        exact ⟨by omega, a2, a3, a4⟩
    · rw [if_neg hlt]
      have e : lo = hi := by omega
      subst e
      exact ⟨by omega, by omega, hf, hn⟩
/-- Where there is a least interface, it is the least. -/
theorem leastS_ok {l : List (S41)} {p : Int} (h : (leastS l p).2.2 = 0) : okAll l = true ∧ 1 ≤ p ∧ p ≤ 200 ∧ ∃ b, leastS l p = (p, b, 0) ∧ 1 ≤ b ∧ b ≤ p ∧ (fitsR l p b).1 = true ∧ ∀ c, 1 ≤ c → c < b → (fitsR l p c).1 = false := by
  unfold leastS at h ⊢
  by_cases h1 : okAll l = true ∧ 1 ≤ p ∧ p ≤ 200
  · rw [if_pos h1] at h ⊢
    by_cases h2 : (fitsR l p 1).2 = 0
    · rw [if_pos h2] at h ⊢
      by_cases h3 : (fitsR l p p).1 = true
      · rw [if_pos h3] at h ⊢
        obtain ⟨a1, a2, a3, a4⟩ := halfS_spec (l := l) (p := p) 200 1 p (by omega) (by omega) (by omega) (by omega) h3 (fun c c1 c2 => by omega)
        exact ⟨h1.1, h1.2.1, h1.2.2, _, rfl, a1, a2, a3, a4⟩
      · rw [if_neg h3] at h; cases h
    · rw [if_neg h2] at h; exact absurd h h2
  · rw [if_neg h1] at h; cases h
theorem leastS_no {l : List (S41)} {p : Int} (h : (leastS l p).2.2 ≠ 0) : leastS l p = (0, 0, (leastS l p).2.2) := by
  unfold leastS at h ⊢
  by_cases h1 : okAll l = true ∧ 1 ≤ p ∧ p ≤ 200
  · rw [if_pos h1] at h ⊢
    by_cases h2 : (fitsR l p 1).2 = 0
    · rw [if_pos h2] at h ⊢
      by_cases h3 : (fitsR l p p).1 = true
      · rw [if_pos h3] at h; exact absurd rfl h
      · rw [if_neg h3]
    · rw [if_neg h2]
  · rw [if_neg h1]
theorem knows11 : remontoirlaw11_knows.f = some true := by
  unfold remontoirlaw11_knows.f
  have a1 : leastS [(⟨1, 4, 4, []⟩ : S41)] 2 = (2, 1, 0) := by decide +kernel
  have a2 : leastS [(⟨1, 4, 4, []⟩ : S41)] 4 = (4, 3, 0) := by decide +kernel
  have a3 : leastS [(⟨4, 4, 4, []⟩ : S41), (⟨1, 4, 4, []⟩ : S41)] 2 = (0, 0, 7) := by decide +kernel
  simp [face_Least.f, a1, a2, a3]
theorem knows11e : Ev (fun _ => (remontoirlaw11_knows.f).bind fun t => some t) true := by rw [knows11]; exact Ev.now _
theorem least_ev (l : List (S41)) (p : Int) (h : (l.length : Int) ≤ 1000000) : face_Least.f l p = some (leastS l p) := by unfold face_Least.f; rw [if_pos h]
/-- The cycle's error hangs on the budget only so far as the interface must be right. -/
theorem cycF_err {l : List (S41)} {p b c : Int} (h : (cycF l p b).2.2 = 0) (hf : okFace p c = true) : (cycF l p c).2.2 = 0 := by
  obtain ⟨hok, _, cy, far, e, _⟩ := cycF_ok h
  unfold cycF
  rw [if_pos ⟨hok, hf⟩, e]; rfl
end Go.Proofs.Ytljgloljncokeaa.PQa
