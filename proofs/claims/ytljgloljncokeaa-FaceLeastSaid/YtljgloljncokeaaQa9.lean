-- Written by a program of this session (pp.py, over the kit's print) out of the translation; functions with closures by hand.
import Derived.Test.YtljgloljncokeaaQa0
import Derived.Test.YtljgloljncokeaaQa2
import Derived.Test.YtljgloljncokeaaQa3
import Derived.Test.YtljgloljncokeaaQa4
import Derived.Test.YtljgloljncokeaaQa6
import Derived.Test.YtljgloljncokeaaQa8
namespace Go.Proofs.Ytljgloljncokeaa.PQa
open Go.RowKit Go.Proofs.YtljgloljncokeaaW.PrintWords Go.Proofs.YtljgloljncokeaaW.PrintLast Go.Proofs.YtljgloljncokeaaW.PrintMore
attribute [local go_sem] max2_int min2_int max_two min_two max_three min_three max_four min_four   -- for this text's walks alone
set_option linter.unusedVariables false
set_option linter.unusedSimpArgs false
/-! ### remontoirref05_All: function 23 -/
def remontoirref05_All.l0 : Nat → List (S41) → Int → Int → Option (Bool)
 | 0, _, _, _ => none
 | k + 1, x0, x3, x4 => if x4 < (x0.length : Int) then (if 0 ≤ x4 then ((remontoirref05_Right.f k ((rd_T41 x0 x4).f0) ((rd_T41 x0 x4).f1) ((rd_T41 x0 x4).f2) ((rd_T41 x0 x4).f3)).bind fun t211 => (if t211 = true then (remontoirref05_All.l0 k x0 (wrap64 (x3 + 1)) (wrap64 (x4 + 1))) else (remontoirref05_All.l0 k x0 x3 (wrap64 (x4 + 1))))) else (none)) else (if x3 = (x0.length : Int) then (some (decide (x3 ≤ 8))) else (some false))
def remontoirref05_All.f (k : Nat) (l0 : List (S41)) : Option (Bool) := remontoirref05_All.l0 k l0 0 0
set_option maxHeartbeats 8000000 in
set_option maxRecDepth 100000 in
theorem remontoirref05_All.calls (k : Nat) (A0 : Option Addr) (c0 : Nat) (l0 : List (S41)) (r : Bool) (w : World) (hr0 : Kd.C k41 w A0 l0.length l0) (hc0 : l0.length ≤ c0) (h : remontoirref05_All.f k l0 = some r) :
  Calls Try.prog 23 #[.slice A0 l0.length c0] w fun e w' => e = .returned (.bool r) ∧ Below w.heap.size w w' := by
 have hu41 := Try.underlying41
 have HR0 := Aside0.mk hr0
 have HC0 := Aside0.mk hc0
 clear hr0 hc0
 have HB := Aside0.mk (Below.refl w.heap.size w)
 have H : (remontoirref05_All.l0 k l0 0 0) = some r := h
 clear h
 have H' := Aside0.mk H
 clear H
 go_enter Try.func23, Try.ntmps23
 go_wp2
 go_loopg [3, 4] k (fun kq v3 v4 w' => ∃ (x3_1 : Int) (x4_1 : Int), v3 = .int .i64 x3_1 ∧ v4 = .int .i64 x4_1 ∧ Aside0 (remontoirref05_All.l0 kq l0 x3_1 x4_1 = some r) ∧ Aside0 (kq ≤ k) ∧ Aside0 (Below w.heap.size w w'))
 case atStart => exact ⟨(0), (0), (by first | rfl | (simp; done) | (simp [*]; done)), (by first | rfl | (simp; done) | (simp [*]; done)), H', ⟨Nat.le_refl _⟩, ⟨by repeat (first | (with_reducible first | exact HB.out | apply below_alloc | apply pw_below_drewN | apply below_drew1) | exact HB.out)⟩⟩
 case round =>
  clear H'
  obtain ⟨x3_1, x4_1, rfl, rfl, HA, HK1, HB⟩ := hrel
  cases gk with
  | zero => exact absurd HA.out (by simp [remontoirref05_All.l0])
  | succ k1 =>
   have H := HA.out
   clear HA
   simp only [remontoirref05_All.l0] at H
   by_cases c2 : x4_1 < (l0.length : Int)
   ·rw [if_pos c2] at H
    have c2b0 : decide (x4_1 < (l0.length : Int)) = true := decide_eq_true c2
    clear c2
    by_cases c3 : 0 ≤ x4_1
    ·rw [if_pos c3] at H
     have c3b0 : decide (0 ≤ x4_1) = true := decide_eq_true c3
     clear c3
     replace H := Option.bind_eq_some_iff.mp H
     obtain ⟨t211, A40, H⟩ := H
     replace H : (if t211 = true then (remontoirref05_All.l0 k1 l0 (wrap64 (x3_1 + 1)) (wrap64 (x4_1 + 1))) else (remontoirref05_All.l0 k1 l0 x3_1 (wrap64 (x4_1 + 1)))) = some r := H
     have A4 := Aside0.mk A40
     clear A40
     by_cases c5 : t211 = true
     ·subst c5
      have H1 : (remontoirref05_All.l0 k1 l0 (wrap64 (x3_1 + 1)) (wrap64 (x4_1 + 1))) = some r := by rw [if_pos rfl] at H; exact H
      clear H
      have H := H1
      clear H1
      have H' := Aside0.mk H
      clear H
      have p210 : 0 ≤ (x4_1 : Int) := of_decide_eq_true (by first | (with_reducible assumption) | assumption)
      have q210 : x4_1 < (l0.length : Int) := of_decide_eq_true (by first | (with_reducible assumption) | assumption)
      obtain ⟨ad210, A210_3, c210_3, e210, hx210_0, hx210_1, hx210_2, hx210_3, hl210_3, hi210_3⟩ := at_T41 HR0.out x4_1 p210 q210
      cases e210
      replace hx210_0 := (HB.out.cell (World.block_lt_of_cell? w _ hx210_0)).trans hx210_0
      replace hx210_1 := (HB.out.cell (World.block_lt_of_cell? w _ hx210_1)).trans hx210_1
      replace hx210_2 := (HB.out.cell (World.block_lt_of_cell? w _ hx210_2)).trans hx210_2
      replace hx210_3 := (HB.out.cell (World.block_lt_of_cell? w _ hx210_3)).trans hx210_3
      have HR210_3 := Aside0.mk hi210_3
      have HC210_3 := Aside0.mk hl210_3
      clear hi210_3 hl210_3
      replace p210 := eq_true p210
      replace q210 := eq_true q210
      go_wp2_with (first | ((with_reducible refine gate_callee (f := 37) rfl ?_); refine goesL_ (some 15) rfl rfl Try.func37 (by kernel_rfl) rfl #[.agg #[.int .i64 ((rd_T41 l0 x4_1).f0), .int .i64 ((rd_T41 l0 x4_1).f1), .int .i64 ((rd_T41 l0 x4_1).f2), .slice A210_3 ((rd_T41 l0 x4_1).f3).length c210_3]] rfl (by (try simp only [List.map_toArray, List.map_cons, List.map_nil]); first | done | rfl | (simp only [List.length_drop, List.length_take]; rfl)) ?_; (with_reducible refine (remontoirref05_Right.calls k1 ((rd_T41 l0 x4_1).f0) ((rd_T41 l0 x4_1).f1) ((rd_T41 l0 x4_1).f2) _ _ ((rd_T41 l0 x4_1).f3) true _ ?side1 ?side2 A4.out).mono ?_); (case side1 => repeat (first | exact (Kd.C_below HR210_3.out HB.out) | (with_reducible refine Kd.C_alloc ?_ _) | (with_reducible refine Kd.C_drewN ?_ _) | (with_reducible refine Kd.C_drew ?_))); (case side2 => exact HC210_3.out); rintro e w6 ⟨rfl, hb⟩; refine ⟨_, rfl, ?_⟩; have n0_ := Aside0.mk (below_step (by repeat (first | (with_reducible first | exact HB.out | apply below_alloc | apply pw_below_drewN | apply below_drew1) | exact HB.out)) hb); clear HB; have HB := n0_; clear n0_; (try clear hb); (try clear hb2); (try clear hk); (try clear hi)))
      go_roundg k1
      case measure => have := HK1.out; omega
      case rel => exact ⟨(wrap64 (x3_1 + 1)), (wrap64 (x4_1 + 1)), (by first | rfl | (simp; done) | (simp [*]; done)), (by first | rfl | (simp; done) | (simp [*]; done)), H', ⟨by have := HK1.out; omega⟩, ⟨by repeat (first | (with_reducible first | exact HB.out | apply below_alloc | apply pw_below_drewN | apply below_drew1) | exact HB.out)⟩⟩
     ·replace c5 := Bool.eq_false_iff.mpr c5
      subst c5
      have H1 : (remontoirref05_All.l0 k1 l0 x3_1 (wrap64 (x4_1 + 1))) = some r := by rw [if_neg (show ¬ (false = true) by decide)] at H; exact H
      clear H
      have H := H1
      clear H1
      have H' := Aside0.mk H
      clear H
      have p210 : 0 ≤ (x4_1 : Int) := of_decide_eq_true (by first | (with_reducible assumption) | assumption)
      have q210 : x4_1 < (l0.length : Int) := of_decide_eq_true (by first | (with_reducible assumption) | assumption)
      obtain ⟨ad210, A210_3, c210_3, e210, hx210_0, hx210_1, hx210_2, hx210_3, hl210_3, hi210_3⟩ := at_T41 HR0.out x4_1 p210 q210
      cases e210
      replace hx210_0 := (HB.out.cell (World.block_lt_of_cell? w _ hx210_0)).trans hx210_0
      replace hx210_1 := (HB.out.cell (World.block_lt_of_cell? w _ hx210_1)).trans hx210_1
      replace hx210_2 := (HB.out.cell (World.block_lt_of_cell? w _ hx210_2)).trans hx210_2
      replace hx210_3 := (HB.out.cell (World.block_lt_of_cell? w _ hx210_3)).trans hx210_3
      have HR210_3 := Aside0.mk hi210_3
      have HC210_3 := Aside0.mk hl210_3
      clear hi210_3 hl210_3
      replace p210 := eq_true p210
      replace q210 := eq_true q210
      go_wp2_with (first | ((with_reducible refine gate_callee (f := 37) rfl ?_); refine goesL_ (some 15) rfl rfl Try.func37 (by kernel_rfl) rfl #[.agg #[.int .i64 ((rd_T41 l0 x4_1).f0), .int .i64 ((rd_T41 l0 x4_1).f1), .int .i64 ((rd_T41 l0 x4_1).f2), .slice A210_3 ((rd_T41 l0 x4_1).f3).length c210_3]] rfl (by (try simp only [List.map_toArray, List.map_cons, List.map_nil]); first | done | rfl | (simp only [List.length_drop, List.length_take]; rfl)) ?_; (with_reducible refine (remontoirref05_Right.calls k1 ((rd_T41 l0 x4_1).f0) ((rd_T41 l0 x4_1).f1) ((rd_T41 l0 x4_1).f2) _ _ ((rd_T41 l0 x4_1).f3) false _ ?side1 ?side2 A4.out).mono ?_); (case side1 => repeat (first | exact (Kd.C_below HR210_3.out HB.out) | (with_reducible refine Kd.C_alloc ?_ _) | (with_reducible refine Kd.C_drewN ?_ _) | (with_reducible refine Kd.C_drew ?_))); (case side2 => exact HC210_3.out); rintro e w7 ⟨rfl, hb⟩; refine ⟨_, rfl, ?_⟩; have n0_ := Aside0.mk (below_step (by repeat (first | (with_reducible first | exact HB.out | apply below_alloc | apply pw_below_drewN | apply below_drew1) | exact HB.out)) hb); clear HB; have HB := n0_; clear n0_; (try clear hb); (try clear hb2); (try clear hk); (try clear hi)))
      go_roundg k1
      case measure => have := HK1.out; omega
      case rel => exact ⟨(x3_1), (wrap64 (x4_1 + 1)), (by first | rfl | (simp; done) | (simp [*]; done)), (by first | rfl | (simp; done) | (simp [*]; done)), H', ⟨by have := HK1.out; omega⟩, ⟨by repeat (first | (with_reducible first | exact HB.out | apply below_alloc | apply pw_below_drewN | apply below_drew1) | exact HB.out)⟩⟩
    ·rw [if_neg c3] at H
     exact absurd H (by simp)
   ·rw [if_neg c2] at H
    have c2b0 : decide (x4_1 < (l0.length : Int)) = false := decide_eq_false c2
    clear c2
    by_cases c8 : x3_1 = (l0.length : Int)
    ·rw [if_pos c8] at H
     have c8b0 : (x3_1 == (l0.length : Int)) = true := beq_iff_eq.mpr c8
     have c8b1 : (x3_1 != (l0.length : Int)) = false := bne_eq_false_iff_eq.mpr c8
     clear c8
     obtain rfl := Option.some.inj H
     go_wp2
     go_ret
     exact ⟨by first | rfl | (simp [errW_none, errW_some] <;> rfl) | (simp [*, errW_none, errW_some] <;> rfl), by repeat (first | (with_reducible first | exact HB.out | apply below_alloc | apply pw_below_drewN | apply below_drew1) | exact HB.out)⟩
    ·rw [if_neg c8] at H
     have c8b0 : (x3_1 == (l0.length : Int)) = false := beq_eq_false_iff_ne.mpr c8
     have c8b1 : (x3_1 != (l0.length : Int)) = true := bne_iff_ne.mpr c8
     obtain rfl := Option.some.inj H
     go_wp2
     go_ret
     exact ⟨by first | rfl | (simp [errW_none, errW_some] <;> rfl) | (simp [*, errW_none, errW_some] <;> rfl), by repeat (first | (with_reducible first | exact HB.out | apply below_alloc | apply pw_below_drewN | apply below_drew1) | exact HB.out)⟩
theorem remontoirref05_All.l0_ev (l : List (S41)) (hlen : (l.length : Int) ≤ 1000000) : ∀ (rest pre : List (S41)) (n : Nat), pre ++ rest = l → n ≤ pre.length →
    Ev (fun k => remontoirref05_All.l0 k l (n : Int) (pre.length : Int)) (decide (n = pre.length) && rest.all okT && decide (l.length ≤ 8)) := by
  intro rest
  induction rest with
  | nil =>
    intro pre n hp hn
    have e : pre = l := by simpa using hp
    subst e
    by_cases h : n = pre.length
    · refine Ev.step (f := fun _ => some (decide ((n : Int) ≤ 8))) (fun k => ?_) ?_
      · simp only [remontoirref05_All.l0]
        rw [if_neg (by omega), if_pos (by omega)]
      · have e2 : decide ((n : Int) ≤ 8) = (decide (n = pre.length) && ([] : List (S41)).all okT && decide (pre.length ≤ 8)) := by rw [Bool.eq_iff_iff]; simp; omega
        rw [e2]; exact Ev.now _
    · refine Ev.step (f := fun _ => some false) (fun k => ?_) (by simpa [h] using Ev.now false)
      simp only [remontoirref05_All.l0]
      rw [if_neg (by omega), if_neg (by omega)]
  | cons b rest ih =>
    intro pre n hp hn
    have hpl : (pre.length : Int) < (l.length : Int) := by rw [← hp]; simp; omega
    have e : rd_T41 l (pre.length : Int) = b := by rw [← hp]; exact getD_mid _ _ _ _
    have hw : wrap64 ((pre.length : Int) + 1) = (((pre ++ [b]).length : Nat) : Int) := by rw [wrap_succ _ (by omega)]; simp
    refine Ev.step (f := fun k => (remontoirref05_Right.f k b.f0 b.f1 b.f2 b.f3).bind fun t => if t = true then remontoirref05_All.l0 k l (wrap64 ((n : Int) + 1)) (((pre ++ [b]).length : Nat) : Int) else remontoirref05_All.l0 k l (n : Int) (((pre ++ [b]).length : Nat) : Int)) (fun k => ?_) (Ev.bind (remontoirref05_Right.ev _ _ _ _) ?_)
    · simp only [remontoirref05_All.l0]
      rw [if_pos hpl, if_pos (by omega), e, hw]
    · by_cases hb : okT b = true
      · have hb2 : okTask b.f0 b.f1 b.f2 b.f3 = true := hb
        have ih2 := ih (pre ++ [b]) (n + 1) (by simpa using hp) (by simp; omega)
        rw [hb2]
        refine Ev.congr (f := fun k => remontoirref05_All.l0 k l ((n + 1 : Nat) : Int) (((pre ++ [b]).length : Nat) : Int)) (fun k => ?_) (by simpa [hb] using ih2)
        rw [if_pos rfl, wrap_succ _ (by omega)]
      · have hb' : okT b = false := by simpa using hb
        have hb2 : okTask b.f0 b.f1 b.f2 b.f3 = false := hb'
        have ih2 := ih (pre ++ [b]) n (by simpa using hp) (by simp; omega)
        have hne : ¬ n = pre.length + 1 := by omega
        rw [hb2]
        have ih3 : Ev (fun k => remontoirref05_All.l0 k l (n : Int) (((pre ++ [b]).length : Nat) : Int)) false := by simpa [hne] using ih2
        simpa [hb'] using ih3
theorem remontoirref05_All.ev (l : List (S41)) (hlen : (l.length : Int) ≤ 1000000) : Ev (fun k => remontoirref05_All.f k l) (okAll l) := by
  have h := remontoirref05_All.l0_ev l hlen l [] 0 rfl (by simp)
  simpa [remontoirref05_All.f, okAll] using h
/-! ### remontoirref09_Right: function 28 -/
def remontoirref09_Right.f (a0_0 : Int) (a0_1 : Int) : Option (Bool) := if a0_0 ≥ 1 then (if a0_0 ≤ 200 then (if a0_1 ≥ 1 then (some (decide (a0_1 ≤ a0_0))) else (some false)) else (some false)) else (some false)
set_option maxHeartbeats 8000000 in
set_option maxRecDepth 100000 in
theorem remontoirref09_Right.calls (a0_0 : Int) (a0_1 : Int) (r : Bool) (w : World) (h : remontoirref09_Right.f a0_0 a0_1 = some r) :
  Calls Try.prog 28 #[.agg #[.int .i64 a0_0, .int .i64 a0_1]] w fun e w' => e = .returned (.bool r) ∧ Below w.heap.size w w' := by
 have hu24 := Try.underlying24
 have HB := Aside0.mk (Below.refl w.heap.size w)
 have H : (if a0_0 ≥ 1 then (if a0_0 ≤ 200 then (if a0_1 ≥ 1 then (some (decide (a0_1 ≤ a0_0))) else (some false)) else (some false)) else (some false)) = some r := h
 clear h
 by_cases c2 : a0_0 ≥ 1
 ·rw [if_pos c2] at H
  have c2b0 : decide (1 ≤ a0_0) = true := decide_eq_true c2
  clear c2
  by_cases c3 : a0_0 ≤ 200
  ·rw [if_pos c3] at H
   have c3b0 : decide (a0_0 ≤ 200) = true := decide_eq_true c3
   clear c3
   by_cases c4 : a0_1 ≥ 1
   ·rw [if_pos c4] at H
    have c4b0 : decide (1 ≤ a0_1) = true := decide_eq_true c4
    clear c4
    obtain rfl := Option.some.inj H
    go_enter Try.func28, Try.ntmps28
    go_wp2_with (first | ((with_reducible refine gate_dst (N := 1) rfl ?_); refine box_event ?hg (N := 1) ?hd (cs := #[.int .i64 a0_0, .int .i64 a0_1]) (t := 24) ?hr ?_; (case hd => rfl); (case hg => rfl); (case hr => first | (go_simp; done) | (go_simp; rfl)); intro gb212 hg w5 hbox hb; have n0_ := Aside0.mk (below_step (by repeat (first | (with_reducible first | exact HB.out | apply below_alloc | apply pw_below_drewN | apply below_drew1) | exact HB.out)) hb); have n1_ := Aside0.mk (hbox); have n2_ := Aside0.mk ((by rw [hg]; exact (below_size (by repeat (first | (with_reducible first | exact HB.out | apply below_alloc | apply pw_below_drewN | apply below_drew1) | exact HB.out))) : w.heap.size ≤ gb212)); have n3_ := Aside0.mk ((by rw [hg]; exact (below_size (by repeat (first | (with_reducible first | exact HB.out | apply below_alloc | apply pw_below_drewN | apply below_drew1) | exact HB.out))) : w.heap.size ≤ gb212)); clear HB; have HB := n0_; have BK212 := n1_; have GW212 := n2_; have GE212 := n3_; clear n0_ n1_ n2_ n3_; clear hb hbox hg; have hcz6_0 : w5.cell? ⟨gb212, 0, none⟩ = some (.int .i64 a0_0) := (blk_cell BK212.out 0).trans rfl; have hcz6_1 : w5.cell? ⟨gb212, 1, none⟩ = some (.int .i64 a0_1) := (blk_cell BK212.out 1).trans rfl; have hfz6_0 := blk_frozen BK212.out 0; have hfz6_1 := blk_frozen BK212.out 1))
    go_ret
    exact ⟨by first | rfl | (simp [errW_none, errW_some] <;> rfl) | (simp [*, errW_none, errW_some] <;> rfl), by repeat (first | (with_reducible first | exact HB.out | apply below_alloc | apply pw_below_drewN | apply below_drew1 | refine below_set ?_ GE212.out) | exact HB.out)⟩
   ·rw [if_neg c4] at H
    have c4b0 : decide (1 ≤ a0_1) = false := decide_eq_false c4
    clear c4
    obtain rfl := Option.some.inj H
    go_enter Try.func28, Try.ntmps28
    go_wp2_with (first | ((with_reducible refine gate_dst (N := 1) rfl ?_); refine box_event ?hg (N := 1) ?hd (cs := #[.int .i64 a0_0, .int .i64 a0_1]) (t := 24) ?hr ?_; (case hd => rfl); (case hg => rfl); (case hr => first | (go_simp; done) | (go_simp; rfl)); intro gb212 hg w7 hbox hb; have n0_ := Aside0.mk (below_step (by repeat (first | (with_reducible first | exact HB.out | apply below_alloc | apply pw_below_drewN | apply below_drew1) | exact HB.out)) hb); have n1_ := Aside0.mk (hbox); have n2_ := Aside0.mk ((by rw [hg]; exact (below_size (by repeat (first | (with_reducible first | exact HB.out | apply below_alloc | apply pw_below_drewN | apply below_drew1) | exact HB.out))) : w.heap.size ≤ gb212)); have n3_ := Aside0.mk ((by rw [hg]; exact (below_size (by repeat (first | (with_reducible first | exact HB.out | apply below_alloc | apply pw_below_drewN | apply below_drew1) | exact HB.out))) : w.heap.size ≤ gb212)); clear HB; have HB := n0_; have BK212 := n1_; have GW212 := n2_; have GE212 := n3_; clear n0_ n1_ n2_ n3_; clear hb hbox hg; have hcz8_0 : w7.cell? ⟨gb212, 0, none⟩ = some (.int .i64 a0_0) := (blk_cell BK212.out 0).trans rfl; have hcz8_1 : w7.cell? ⟨gb212, 1, none⟩ = some (.int .i64 a0_1) := (blk_cell BK212.out 1).trans rfl; have hfz8_0 := blk_frozen BK212.out 0; have hfz8_1 := blk_frozen BK212.out 1))
    go_ret
    exact ⟨by first | rfl | (simp [errW_none, errW_some] <;> rfl) | (simp [*, errW_none, errW_some] <;> rfl), by repeat (first | (with_reducible first | exact HB.out | apply below_alloc | apply pw_below_drewN | apply below_drew1 | refine below_set ?_ GE212.out) | exact HB.out)⟩
  ·rw [if_neg c3] at H
   have c3b0 : decide (a0_0 ≤ 200) = false := decide_eq_false c3
   clear c3
   obtain rfl := Option.some.inj H
   go_enter Try.func28, Try.ntmps28
   go_wp2_with (first | ((with_reducible refine gate_dst (N := 1) rfl ?_); refine box_event ?hg (N := 1) ?hd (cs := #[.int .i64 a0_0, .int .i64 a0_1]) (t := 24) ?hr ?_; (case hd => rfl); (case hg => rfl); (case hr => first | (go_simp; done) | (go_simp; rfl)); intro gb212 hg w9 hbox hb; have n0_ := Aside0.mk (below_step (by repeat (first | (with_reducible first | exact HB.out | apply below_alloc | apply pw_below_drewN | apply below_drew1) | exact HB.out)) hb); have n1_ := Aside0.mk (hbox); have n2_ := Aside0.mk ((by rw [hg]; exact (below_size (by repeat (first | (with_reducible first | exact HB.out | apply below_alloc | apply pw_below_drewN | apply below_drew1) | exact HB.out))) : w.heap.size ≤ gb212)); have n3_ := Aside0.mk ((by rw [hg]; exact (below_size (by repeat (first | (with_reducible first | exact HB.out | apply below_alloc | apply pw_below_drewN | apply below_drew1) | exact HB.out))) : w.heap.size ≤ gb212)); clear HB; have HB := n0_; have BK212 := n1_; have GW212 := n2_; have GE212 := n3_; clear n0_ n1_ n2_ n3_; clear hb hbox hg; have hcz10_0 : w9.cell? ⟨gb212, 0, none⟩ = some (.int .i64 a0_0) := (blk_cell BK212.out 0).trans rfl; have hcz10_1 : w9.cell? ⟨gb212, 1, none⟩ = some (.int .i64 a0_1) := (blk_cell BK212.out 1).trans rfl; have hfz10_0 := blk_frozen BK212.out 0; have hfz10_1 := blk_frozen BK212.out 1))
   go_ret
   exact ⟨by first | rfl | (simp [errW_none, errW_some] <;> rfl) | (simp [*, errW_none, errW_some] <;> rfl), by repeat (first | (with_reducible first | exact HB.out | apply below_alloc | apply pw_below_drewN | apply below_drew1 | refine below_set ?_ GE212.out) | exact HB.out)⟩
 ·rw [if_neg c2] at H
  have c2b0 : decide (1 ≤ a0_0) = false := decide_eq_false c2
  clear c2
  obtain rfl := Option.some.inj H
  go_enter Try.func28, Try.ntmps28
  go_wp2_with (first | ((with_reducible refine gate_dst (N := 1) rfl ?_); refine box_event ?hg (N := 1) ?hd (cs := #[.int .i64 a0_0, .int .i64 a0_1]) (t := 24) ?hr ?_; (case hd => rfl); (case hg => rfl); (case hr => first | (go_simp; done) | (go_simp; rfl)); intro gb212 hg w11 hbox hb; have n0_ := Aside0.mk (below_step (by repeat (first | (with_reducible first | exact HB.out | apply below_alloc | apply pw_below_drewN | apply below_drew1) | exact HB.out)) hb); have n1_ := Aside0.mk (hbox); have n2_ := Aside0.mk ((by rw [hg]; exact (below_size (by repeat (first | (with_reducible first | exact HB.out | apply below_alloc | apply pw_below_drewN | apply below_drew1) | exact HB.out))) : w.heap.size ≤ gb212)); have n3_ := Aside0.mk ((by rw [hg]; exact (below_size (by repeat (first | (with_reducible first | exact HB.out | apply below_alloc | apply pw_below_drewN | apply below_drew1) | exact HB.out))) : w.heap.size ≤ gb212)); clear HB; have HB := n0_; have BK212 := n1_; have GW212 := n2_; have GE212 := n3_; clear n0_ n1_ n2_ n3_; clear hb hbox hg; have hcz12_0 : w11.cell? ⟨gb212, 0, none⟩ = some (.int .i64 a0_0) := (blk_cell BK212.out 0).trans rfl; have hcz12_1 : w11.cell? ⟨gb212, 1, none⟩ = some (.int .i64 a0_1) := (blk_cell BK212.out 1).trans rfl; have hfz12_0 := blk_frozen BK212.out 0; have hfz12_1 := blk_frozen BK212.out 1))
  go_ret
  exact ⟨by first | rfl | (simp [errW_none, errW_some] <;> rfl) | (simp [*, errW_none, errW_some] <;> rfl), by repeat (first | (with_reducible first | exact HB.out | apply below_alloc | apply pw_below_drewN | apply below_drew1 | refine below_set ?_ GE212.out) | exact HB.out)⟩
theorem remontoirref09_Right.ev (p b : Int) : remontoirref09_Right.f p b = some (okFace p b) := by
  unfold remontoirref09_Right.f okFace
  by_cases h1 : p ≥ 1
  · rw [if_pos h1]
    by_cases h2 : p ≤ 200
    · rw [if_pos h2]
      by_cases h3 : b ≥ 1
      · rw [if_pos h3]; congr 1; rw [Bool.eq_iff_iff]; simp; omega
      · rw [if_neg h3]; congr 1; rw [Bool.eq_iff_iff]; simp; omega
    · rw [if_neg h2]; congr 1; rw [Bool.eq_iff_iff]; simp; omega
  · rw [if_neg h1]; congr 1; rw [Bool.eq_iff_iff]; simp; omega
/-! ### remontoirref10_Cycle: function 15 -/
mutual
def remontoirref10_Cycle.j0 : Nat → List (S41) → Bool → Int → Int → Option (Int × Int × Int)
 | 0, _, _, _, _ => none
 | k + 1, x0, x19, x214000, x214001 => if x19 = true then (some (0, 0, 1)) else (remontoirref10_Cycle.l0 k x0 (wrap64 (2 * x214000)) 0 x214000 x214001)
def remontoirref10_Cycle.l0 : Nat → List (S41) → Int → Int → Int → Int → Option (Int × Int × Int)
 | 0, _, _, _, _, _ => none
 | k + 1, x0, x7, x8, x214000, x214001 => if x8 < (x0.length : Int) then (if 0 ≤ x8 then (if ((rd_T41 x0 x8).f1) > x7 then (remontoirref10_Cycle.l0 k x0 ((rd_T41 x0 x8).f1) (wrap64 (x8 + 1)) x214000 x214001) else (remontoirref10_Cycle.l0 k x0 x7 (wrap64 (x8 + 1)) x214000 x214001)) else (none)) else (remontoirref10_Cycle.l1 k x0 x7 x214000 x214000 x214001)
def remontoirref10_Cycle.l1 : Nat → List (S41) → Int → Int → Int → Int → Option (Int × Int × Int)
 | 0, _, _, _, _, _ => none
 | k + 1, x0, x7, x9, x214000, x214001 => if (wrap64 (x9 + x7)) ≤ 3000 then (remontoirref10_Cycle.l2 k x0 x7 x9 true 0 x214000 x214001) else (some (0, 0, 5))
def remontoirref10_Cycle.l2 : Nat → List (S41) → Int → Int → Bool → Int → Int → Int → Option (Int × Int × Int)
 | 0, _, _, _, _, _, _, _ => none
 | k + 1, x0, x7, x9, x10, x11, x214000, x214001 => if x11 < (x0.length : Int) then (if x10 = true then (if 0 ≤ x11 then (if ((rd_T41 x0 x11).f2) = 0 then (none) else (remontoirref10_Cycle.l2 k x0 x7 x9 ((Int.tmod x9 ((rd_T41 x0 x11).f2)) == 0) (wrap64 (x11 + 1)) x214000 x214001)) else (none)) else (remontoirref10_Cycle.l2 k x0 x7 x9 false (wrap64 (x11 + 1)) x214000 x214001)) else (if x10 = true then (some (x9, wrap64 (x9 + x7), 0)) else (remontoirref10_Cycle.l1 k x0 x7 (wrap64 (x9 + x214000)) x214000 x214001))
end
def remontoirref10_Cycle.f (k : Nat) (l0 : List (S41)) (a1_0 : Int) (a1_1 : Int) : Option (Int × Int × Int) := (remontoirref05_All.f k l0).bind fun t214 => (if t214 = true then ((remontoirref09_Right.f a1_0 a1_1).bind fun t215 => (remontoirref10_Cycle.j0 k l0 (!t215) a1_0 a1_1)) else (remontoirref10_Cycle.j0 k l0 true a1_0 a1_1))
set_option maxHeartbeats 8000000 in
set_option maxRecDepth 100000 in
theorem remontoirref10_Cycle.calls (k : Nat) (A0 : Option Addr) (c0 : Nat) (l0 : List (S41)) (a1_0 : Int) (a1_1 : Int) (r1 : Int) (r2 : Int) (r3 : Int) (w : World) (hr0 : Kd.C k41 w A0 l0.length l0) (hc0 : l0.length ≤ c0) (h : remontoirref10_Cycle.f k l0 a1_0 a1_1 = some (r1, r2, r3)) :
  Calls Try.prog 15 #[.slice A0 l0.length c0, .agg #[.int .i64 a1_0, .int .i64 a1_1]] w fun e w' => e = .returned (.tuple #[.int .i64 r1, .int .i64 r2, .int .i64 r3]) ∧ Below w.heap.size w w' := by
 have hu24 := Try.underlying24
 have HR0 := Aside0.mk hr0
 have HC0 := Aside0.mk hc0
 clear hr0 hc0
 have HB := Aside0.mk (Below.refl w.heap.size w)
 have H : ((remontoirref05_All.f k l0).bind fun t214 => (if t214 = true then ((remontoirref09_Right.f a1_0 a1_1).bind fun t215 => (remontoirref10_Cycle.j0 k l0 (!t215) a1_0 a1_1)) else (remontoirref10_Cycle.j0 k l0 true a1_0 a1_1))) = some (r1, r2, r3) := h
 clear h
 have HC3 := Aside0.mk H
 clear H
 go_enter Try.func15, Try.ntmps15
 go_upto_region 1 with (first | ((with_reducible refine gate_dst (N := 3) rfl ?_); refine box_event ?hg (N := 3) ?hd (cs := #[.int .i64 a1_0, .int .i64 a1_1]) (t := 24) ?hr ?_; (case hd => rfl); (case hg => rfl); (case hr => first | (go_simp; done) | (go_simp; rfl)); intro gb213 hg w4 hbox hb; have n0_ := Aside0.mk (below_step (by repeat (first | (with_reducible first | exact HB.out | apply below_alloc | apply pw_below_drewN | apply below_drew1) | exact HB.out)) hb); have n1_ := Aside0.mk (hbox); have n2_ := Aside0.mk ((by rw [hg]; exact (below_size (by repeat (first | (with_reducible first | exact HB.out | apply below_alloc | apply pw_below_drewN | apply below_drew1) | exact HB.out))) : w.heap.size ≤ gb213)); have n3_ := Aside0.mk ((by rw [hg]; exact (below_size (by repeat (first | (with_reducible first | exact HB.out | apply below_alloc | apply pw_below_drewN | apply below_drew1) | exact HB.out))) : w.heap.size ≤ gb213)); clear HB; have HB := n0_; have BK213 := n1_; have GW213 := n2_; have GE213 := n3_; clear n0_ n1_ n2_ n3_; clear hb hbox hg))
 (try simp only [Act.put, List.setIfInBounds_toArray, List.set_cons_zero, List.set_cons_succ])
 go_cut [19] (fun v19 wc => ∃ (kq : Nat) (x19_2 : Bool), v19 = .bool x19_2 ∧ Aside0 (remontoirref10_Cycle.j0 kq l0 x19_2 a1_0 a1_1 = some (r1, r2, r3)) ∧ Aside0 (kq ≤ k) ∧ Aside0 (wc.heap[gb213]? = some (.cells #[.int .i64 a1_0, .int .i64 a1_1] 24 (0, 0))) ∧ Aside0 (Below w.heap.size w wc))
 case first =>
  have H := HC3.out
  clear HC3
  replace H := Option.bind_eq_some_iff.mp H
  obtain ⟨t214, A50, H⟩ := H
  replace H : (if t214 = true then ((remontoirref09_Right.f a1_0 a1_1).bind fun t215 => (remontoirref10_Cycle.j0 k l0 (!t215) a1_0 a1_1)) else (remontoirref10_Cycle.j0 k l0 true a1_0 a1_1)) = some (r1, r2, r3) := H
  have A5 := Aside0.mk A50
  clear A50
  by_cases c6 : t214 = true
  ·subst c6
   have H1 : ((remontoirref09_Right.f a1_0 a1_1).bind fun t215 => (remontoirref10_Cycle.j0 k l0 (!t215) a1_0 a1_1)) = some (r1, r2, r3) := by rw [if_pos rfl] at H; exact H
   clear H
   have H := H1
   clear H1
   replace H := Option.bind_eq_some_iff.mp H
   obtain ⟨t215, A70, H⟩ := H
   replace H : (remontoirref10_Cycle.j0 k l0 (!t215) a1_0 a1_1) = some (r1, r2, r3) := H
   have A7 := Aside0.mk A70
   clear A70
   have H' := Aside0.mk H
   clear H
   go_wp2_with (first | ((with_reducible refine gate_callee (f := 23) rfl ?_); refine goesL_ (some 13) rfl rfl Try.func23 (by kernel_rfl) rfl #[.slice A0 l0.length c0] rfl (by (try simp only [List.map_toArray, List.map_cons, List.map_nil]); first | done | rfl | (simp only [List.length_drop, List.length_take]; rfl)) ?_; (with_reducible refine (remontoirref05_All.calls k _ _ l0 true _ ?side1 ?side2 A5.out).mono ?_); (case side1 => repeat (first | exact (Kd.C_below HR0.out HB.out) | (with_reducible refine Kd.C_alloc ?_ _) | (with_reducible refine Kd.C_drewN ?_ _) | (with_reducible refine Kd.C_drew ?_))); (case side2 => exact HC0.out); rintro e w8 ⟨rfl, hb⟩; refine ⟨_, rfl, ?_⟩; have n0_ := Aside0.mk (blk_below (g := gb213) (o := .cells #[.int .i64 a1_0, .int .i64 a1_1] 24 (0, 0)) (by (with_reducible repeat (first | refine blk_drewN ?_ _ | refine blk_drew ?_ | refine blk_alloc ?_ _)); exact BK213.out) hb); have n1_ := Aside0.mk (below_step (by repeat (first | (with_reducible first | exact HB.out | apply below_alloc | apply pw_below_drewN | apply below_drew1 | refine below_set ?_ GE213.out) | exact HB.out)) hb); clear BK213; clear HB; have BK213 := n0_; have HB := n1_; clear n0_ n1_; (try clear hb); (try clear hb2); (try clear hk); (try clear hi); have hcz9_0 : w8.cell? ⟨gb213, 0, none⟩ = some (.int .i64 a1_0) := (blk_cell BK213.out 0).trans rfl; have hcz9_1 : w8.cell? ⟨gb213, 1, none⟩ = some (.int .i64 a1_1) := (blk_cell BK213.out 1).trans rfl; have hfz9_0 := blk_frozen BK213.out 0; have hfz9_1 := blk_frozen BK213.out 1) | (go_at_call 28; (with_reducible refine (remontoirref09_Right.calls a1_0 a1_1 t215 _ A7.out).mono ?_); rintro e w10 ⟨rfl, hb⟩; have n0_ := Aside0.mk (blk_below (g := gb213) (o := .cells #[.int .i64 a1_0, .int .i64 a1_1] 24 (0, 0)) (by (with_reducible repeat (first | refine blk_drewN ?_ _ | refine blk_drew ?_ | refine blk_alloc ?_ _)); exact BK213.out) hb); have n1_ := Aside0.mk (below_step (by repeat (first | (with_reducible first | exact HB.out | apply below_alloc | apply pw_below_drewN | apply below_drew1 | refine below_set ?_ GE213.out) | exact HB.out)) hb); clear BK213; clear HB; have BK213 := n0_; have HB := n1_; clear n0_ n1_; (try clear hb); (try clear hb2); (try clear hk); (try clear hi)))
   go_meet
   case rel => exact ⟨_, (!t215), (by first | rfl | (simp; done) | (simp [*]; done)), H', ⟨by first | omega | exact Nat.le_refl _⟩, ⟨by (with_reducible repeat (first | refine blk_drewN ?_ _ | refine blk_drew ?_ | refine blk_alloc ?_ _)); exact BK213.out⟩, ⟨by repeat (first | (with_reducible first | exact HB.out | apply below_alloc | apply pw_below_drewN | apply below_drew1 | refine below_set ?_ GE213.out) | exact HB.out)⟩⟩
  ·replace c6 := Bool.eq_false_iff.mpr c6
   subst c6
   have H1 : (remontoirref10_Cycle.j0 k l0 true a1_0 a1_1) = some (r1, r2, r3) := by rw [if_neg (show ¬ (false = true) by decide)] at H; exact H
   clear H
   have H := H1
   clear H1
   have H' := Aside0.mk H
   clear H
   go_wp2_with (first | ((with_reducible refine gate_callee (f := 23) rfl ?_); refine goesL_ (some 13) rfl rfl Try.func23 (by kernel_rfl) rfl #[.slice A0 l0.length c0] rfl (by (try simp only [List.map_toArray, List.map_cons, List.map_nil]); first | done | rfl | (simp only [List.length_drop, List.length_take]; rfl)) ?_; (with_reducible refine (remontoirref05_All.calls k _ _ l0 false _ ?side1 ?side2 A5.out).mono ?_); (case side1 => repeat (first | exact (Kd.C_below HR0.out HB.out) | (with_reducible refine Kd.C_alloc ?_ _) | (with_reducible refine Kd.C_drewN ?_ _) | (with_reducible refine Kd.C_drew ?_))); (case side2 => exact HC0.out); rintro e w11 ⟨rfl, hb⟩; refine ⟨_, rfl, ?_⟩; have n0_ := Aside0.mk (blk_below (g := gb213) (o := .cells #[.int .i64 a1_0, .int .i64 a1_1] 24 (0, 0)) (by (with_reducible repeat (first | refine blk_drewN ?_ _ | refine blk_drew ?_ | refine blk_alloc ?_ _)); exact BK213.out) hb); have n1_ := Aside0.mk (below_step (by repeat (first | (with_reducible first | exact HB.out | apply below_alloc | apply pw_below_drewN | apply below_drew1 | refine below_set ?_ GE213.out) | exact HB.out)) hb); clear BK213; clear HB; have BK213 := n0_; have HB := n1_; clear n0_ n1_; (try clear hb); (try clear hb2); (try clear hk); (try clear hi)))
   go_meet
   case rel => exact ⟨_, (true), (by first | rfl | (simp; done) | (simp [*]; done)), H', ⟨by first | omega | exact Nat.le_refl _⟩, ⟨by (with_reducible repeat (first | refine blk_drewN ?_ _ | refine blk_drew ?_ | refine blk_alloc ?_ _)); exact BK213.out⟩, ⟨by repeat (first | (with_reducible first | exact HB.out | apply below_alloc | apply pw_below_drewN | apply below_drew1 | refine below_set ?_ GE213.out) | exact HB.out)⟩⟩
 case rest =>
  clear HC3
  (try clear c1); (try clear c2); (try clear p2); (try clear c6); (try clear hcz9_0); (try clear hcz9_1); (try clear hfz9_0); (try clear hfz9_1)
  obtain ⟨kq, x19_2, rfl, HA, HJ2, BK213, HB⟩ := hcut
  cases kq with
  | zero => exact absurd HA.out (by simp [remontoirref10_Cycle.j0])
  | succ kj2 =>
   have H := HA.out
   clear HA
   simp only [remontoirref10_Cycle.j0] at H
   by_cases c12 : x19_2 = true
   ·subst c12
    have H1 : (some (0, 0, 1)) = some (r1, r2, r3) := by rw [if_pos rfl] at H; exact H
    clear H
    have H := H1
    clear H1
    simp only [Option.some.injEq, Prod.mk.injEq] at H
    obtain ⟨rfl, rfl, rfl⟩ := H
    go_wp2
    go_ret3
    exact ⟨by first | rfl | (simp [errW_none, errW_some] <;> rfl) | (simp [*, errW_none, errW_some] <;> rfl), by repeat (first | (with_reducible first | exact HB.out | apply below_alloc | apply pw_below_drewN | apply below_drew1 | refine below_set ?_ GE213.out) | exact HB.out)⟩
   ·replace c12 := Bool.eq_false_iff.mpr c12
    subst c12
    have H1 : (remontoirref10_Cycle.l0 kj2 l0 (wrap64 (2 * a1_0)) 0 a1_0 a1_1) = some (r1, r2, r3) := by rw [if_neg (show ¬ (false = true) by decide)] at H; exact H
    clear H
    have H := H1
    clear H1
    have H' := Aside0.mk H
    clear H
    have hcz13_0 : wc.cell? ⟨gb213, 0, none⟩ = some (.int .i64 a1_0) := (blk_cell BK213.out 0).trans rfl
    have hcz13_1 : wc.cell? ⟨gb213, 1, none⟩ = some (.int .i64 a1_1) := (blk_cell BK213.out 1).trans rfl
    have hfz13_0 := blk_frozen BK213.out 0
    have hfz13_1 := blk_frozen BK213.out 1
    go_wp2
    go_loopg [7, 8] kj2 (fun kq v7 v8 w' => ∃ (x7_2 : Int) (x8_2 : Int), v7 = .int .i64 x7_2 ∧ v8 = .int .i64 x8_2 ∧ Aside0 (remontoirref10_Cycle.l0 kq l0 x7_2 x8_2 a1_0 a1_1 = some (r1, r2, r3)) ∧ Aside0 (kq ≤ kj2) ∧ Aside0 (w'.heap[gb213]? = some (.cells #[.int .i64 a1_0, .int .i64 a1_1] 24 (0, 0))) ∧ Aside0 (Below w.heap.size w w'))
    case atStart => exact ⟨(wrap64 (2 * a1_0)), (0), (by first | rfl | (simp; done) | (simp [*]; done)), (by first | rfl | (simp; done) | (simp [*]; done)), H', ⟨Nat.le_refl _⟩, ⟨by (with_reducible repeat (first | refine blk_drewN ?_ _ | refine blk_drew ?_ | refine blk_alloc ?_ _)); exact BK213.out⟩, ⟨by repeat (first | (with_reducible first | exact HB.out | apply below_alloc | apply pw_below_drewN | apply below_drew1 | refine below_set ?_ GE213.out) | exact HB.out)⟩⟩
    case round =>
     clear H'
     (try clear c1); (try clear c2); (try clear p2); (try clear c6); (try clear p6); (try clear c12); (try clear hcz13_0); (try clear hcz13_1); (try clear hcz9_0); (try clear hcz9_1); (try clear hfz13_0); (try clear hfz13_1); (try clear hfz9_0); (try clear hfz9_1); (try clear p2)
     obtain ⟨x7_2, x8_2, rfl, rfl, HA, HK2, BK213, HB⟩ := hrel
     cases gk with
     | zero => exact absurd HA.out (by simp [remontoirref10_Cycle.l0])
     | succ k2 =>
      have H := HA.out
      clear HA
      simp only [remontoirref10_Cycle.l0] at H
      by_cases c14 : x8_2 < (l0.length : Int)
      ·rw [if_pos c14] at H
       have c14b0 : decide (x8_2 < (l0.length : Int)) = true := decide_eq_true c14
       clear c14
       by_cases c15 : 0 ≤ x8_2
       ·rw [if_pos c15] at H
        have c15b0 : decide (0 ≤ x8_2) = true := decide_eq_true c15
        clear c15
        by_cases c16 : ((rd_T41 l0 x8_2).f1) > x7_2
        ·rw [if_pos c16] at H
         have c16b0 : decide (x7_2 < ((rd_T41 l0 x8_2).f1)) = true := decide_eq_true c16
         clear c16
         have H' := Aside0.mk H
         clear H
         have p216 : 0 ≤ (x8_2 : Int) := of_decide_eq_true (by first | (with_reducible assumption) | assumption)
         have q216 : x8_2 < (l0.length : Int) := of_decide_eq_true (by first | (with_reducible assumption) | assumption)
         obtain ⟨ad216, A216_3, c216_3, e216, hx216_0, hx216_1, hx216_2, hx216_3, hl216_3, hi216_3⟩ := at_T41 HR0.out x8_2 p216 q216
         cases e216
         replace hx216_0 := (HB.out.cell (World.block_lt_of_cell? w _ hx216_0)).trans hx216_0
         replace hx216_1 := (HB.out.cell (World.block_lt_of_cell? w _ hx216_1)).trans hx216_1
         replace hx216_2 := (HB.out.cell (World.block_lt_of_cell? w _ hx216_2)).trans hx216_2
         replace hx216_3 := (HB.out.cell (World.block_lt_of_cell? w _ hx216_3)).trans hx216_3
         have HR216_3 := Aside0.mk hi216_3
         have HC216_3 := Aside0.mk hl216_3
         clear hi216_3 hl216_3
         replace p216 := eq_true p216
         replace q216 := eq_true q216
         have p217 : 0 ≤ (x8_2 : Int) := of_decide_eq_true (by first | (with_reducible assumption) | assumption)
         have q217 : x8_2 < (l0.length : Int) := of_decide_eq_true (by first | (with_reducible assumption) | assumption)
         obtain ⟨ad217, A217_3, c217_3, e217, hx217_0, hx217_1, hx217_2, hx217_3, hl217_3, hi217_3⟩ := at_T41 HR0.out x8_2 p217 q217
         obtain rfl : ad216 = ad217 := (by injection e217)
         replace hx217_0 := (HB.out.cell (World.block_lt_of_cell? w _ hx217_0)).trans hx217_0
         replace hx217_1 := (HB.out.cell (World.block_lt_of_cell? w _ hx217_1)).trans hx217_1
         replace hx217_2 := (HB.out.cell (World.block_lt_of_cell? w _ hx217_2)).trans hx217_2
         replace hx217_3 := (HB.out.cell (World.block_lt_of_cell? w _ hx217_3)).trans hx217_3
         have HR217_3 := Aside0.mk hi217_3
         have HC217_3 := Aside0.mk hl217_3
         clear hi217_3 hl217_3
         replace p217 := eq_true p217
         replace q217 := eq_true q217
         have ea_ := Option.some.inj (hx216_3.symm.trans hx217_3)
         injection ea_ with ea_ en_ ec_
         subst ea_
         subst ec_
         clear en_
         go_wp2
         go_roundg k2
         case measure => have := HJ2.out; have := HK2.out; omega
         case rel => exact ⟨((rd_T41 l0 x8_2).f1), (wrap64 (x8_2 + 1)), (by first | rfl | (simp; done) | (simp [*]; done)), (by first | rfl | (simp; done) | (simp [*]; done)), H', ⟨by have := HJ2.out; have := HK2.out; omega⟩, ⟨by (with_reducible repeat (first | refine blk_drewN ?_ _ | refine blk_drew ?_ | refine blk_alloc ?_ _)); exact BK213.out⟩, ⟨by repeat (first | (with_reducible first | exact HB.out | apply below_alloc | apply pw_below_drewN | apply below_drew1 | refine below_set ?_ GE213.out) | exact HB.out)⟩⟩
        ·rw [if_neg c16] at H
         have c16b0 : decide (x7_2 < ((rd_T41 l0 x8_2).f1)) = false := decide_eq_false c16
         clear c16
         have H' := Aside0.mk H
         clear H
         have p216 : 0 ≤ (x8_2 : Int) := of_decide_eq_true (by first | (with_reducible assumption) | assumption)
         have q216 : x8_2 < (l0.length : Int) := of_decide_eq_true (by first | (with_reducible assumption) | assumption)
         obtain ⟨ad216, A216_3, c216_3, e216, hx216_0, hx216_1, hx216_2, hx216_3, hl216_3, hi216_3⟩ := at_T41 HR0.out x8_2 p216 q216
         cases e216
         replace hx216_0 := (HB.out.cell (World.block_lt_of_cell? w _ hx216_0)).trans hx216_0
         replace hx216_1 := (HB.out.cell (World.block_lt_of_cell? w _ hx216_1)).trans hx216_1
         replace hx216_2 := (HB.out.cell (World.block_lt_of_cell? w _ hx216_2)).trans hx216_2
         replace hx216_3 := (HB.out.cell (World.block_lt_of_cell? w _ hx216_3)).trans hx216_3
         have HR216_3 := Aside0.mk hi216_3
         have HC216_3 := Aside0.mk hl216_3
         clear hi216_3 hl216_3
         replace p216 := eq_true p216
         replace q216 := eq_true q216
         go_wp2
         go_roundg k2
         case measure => have := HJ2.out; have := HK2.out; omega
         case rel => exact ⟨(x7_2), (wrap64 (x8_2 + 1)), (by first | rfl | (simp; done) | (simp [*]; done)), (by first | rfl | (simp; done) | (simp [*]; done)), H', ⟨by have := HJ2.out; have := HK2.out; omega⟩, ⟨by (with_reducible repeat (first | refine blk_drewN ?_ _ | refine blk_drew ?_ | refine blk_alloc ?_ _)); exact BK213.out⟩, ⟨by repeat (first | (with_reducible first | exact HB.out | apply below_alloc | apply pw_below_drewN | apply below_drew1 | refine below_set ?_ GE213.out) | exact HB.out)⟩⟩
       ·rw [if_neg c15] at H
        exact absurd H (by simp)
      ·rw [if_neg c14] at H
       have c14b0 : decide (x8_2 < (l0.length : Int)) = false := decide_eq_false c14
       clear c14
       have H' := Aside0.mk H
       clear H
       have hcz17_0 : wr.cell? ⟨gb213, 0, none⟩ = some (.int .i64 a1_0) := (blk_cell BK213.out 0).trans rfl
       have hcz17_1 : wr.cell? ⟨gb213, 1, none⟩ = some (.int .i64 a1_1) := (blk_cell BK213.out 1).trans rfl
       have hfz17_0 := blk_frozen BK213.out 0
       have hfz17_1 := blk_frozen BK213.out 1
       go_wp2
       go_loopg [9] k2 (fun kq v9 w' => ∃ (x9_3 : Int), v9 = .int .i64 x9_3 ∧ Aside0 (remontoirref10_Cycle.l1 kq l0 x7_2 x9_3 a1_0 a1_1 = some (r1, r2, r3)) ∧ Aside0 (kq ≤ k2) ∧ Aside0 (w'.heap[gb213]? = some (.cells #[.int .i64 a1_0, .int .i64 a1_1] 24 (0, 0))) ∧ Aside0 (Below w.heap.size w w'))
       case atStart => exact ⟨(a1_0), (by first | rfl | (simp; done) | (simp [*]; done)), H', ⟨Nat.le_refl _⟩, ⟨by (with_reducible repeat (first | refine blk_drewN ?_ _ | refine blk_drew ?_ | refine blk_alloc ?_ _)); exact BK213.out⟩, ⟨by repeat (first | (with_reducible first | exact HB.out | apply below_alloc | apply pw_below_drewN | apply below_drew1 | refine below_set ?_ GE213.out) | exact HB.out)⟩⟩
       case round =>
        clear H'
        (try clear c1); (try clear c2); (try clear p2); (try clear q2); (try clear hx2); (try clear c6); (try clear p6); (try clear c12); (try clear c14); (try clear c14b0); (try clear c15); (try clear c15b0); (try clear c16); (try clear c16b0); (try clear hcz13_0); (try clear hcz13_1); (try clear hcz17_0); (try clear hcz17_1); (try clear hcz9_0); (try clear hcz9_1); (try clear hfz13_0); (try clear hfz13_1); (try clear hfz17_0); (try clear hfz17_1); (try clear hfz9_0); (try clear hfz9_1); (try clear hx216_0); (try clear hx216_1); (try clear hx216_2); (try clear hx216_3); (try clear hx217_0); (try clear hx217_1); (try clear hx217_2); (try clear hx217_3); (try clear p2); (try clear p216); (try clear p217); (try clear p6); (try clear q216); (try clear q217)
        obtain ⟨x9_3, rfl, HA, HK3, BK213, HB⟩ := hrel
        cases gk with
        | zero => exact absurd HA.out (by simp [remontoirref10_Cycle.l1])
        | succ k3 =>
         have H := HA.out
         clear HA
         simp only [remontoirref10_Cycle.l1] at H
         by_cases c18 : (wrap64 (x9_3 + x7_2)) ≤ 3000
         ·rw [if_pos c18] at H
          have c18b0 : decide ((wrap64 (x9_3 + x7_2)) ≤ 3000) = true := decide_eq_true c18
          clear c18
          have H' := Aside0.mk H
          clear H
          go_wp2
          go_loopg [10, 11] k3 (fun kq v10 v11 w' => ∃ (x10_4 : Bool) (x11_4 : Int), v10 = .bool x10_4 ∧ v11 = .int .i64 x11_4 ∧ Aside0 (remontoirref10_Cycle.l2 kq l0 x7_2 x9_3 x10_4 x11_4 a1_0 a1_1 = some (r1, r2, r3)) ∧ Aside0 (kq ≤ k3) ∧ Aside0 (w'.heap[gb213]? = some (.cells #[.int .i64 a1_0, .int .i64 a1_1] 24 (0, 0))) ∧ Aside0 (Below w.heap.size w w'))
          case atStart => exact ⟨(true), (0), (by first | rfl | (simp; done) | (simp [*]; done)), (by first | rfl | (simp; done) | (simp [*]; done)), H', ⟨Nat.le_refl _⟩, ⟨by (with_reducible repeat (first | refine blk_drewN ?_ _ | refine blk_drew ?_ | refine blk_alloc ?_ _)); exact BK213.out⟩, ⟨by repeat (first | (with_reducible first | exact HB.out | apply below_alloc | apply pw_below_drewN | apply below_drew1 | refine below_set ?_ GE213.out) | exact HB.out)⟩⟩
          case round =>
           clear H'
           (try clear c1); (try clear c2); (try clear p2); (try clear q2); (try clear hx2); (try clear c6); (try clear p6); (try clear c12); (try clear c14); (try clear c14b0); (try clear c15); (try clear c15b0); (try clear c16); (try clear c16b0); (try clear c18); (try clear c18b0); (try clear hcz13_0); (try clear hcz13_1); (try clear hcz17_0); (try clear hcz17_1); (try clear hcz9_0); (try clear hcz9_1); (try clear hfz13_0); (try clear hfz13_1); (try clear hfz17_0); (try clear hfz17_1); (try clear hfz9_0); (try clear hfz9_1); (try clear hx216_0); (try clear hx216_1); (try clear hx216_2); (try clear hx216_3); (try clear hx217_0); (try clear hx217_1); (try clear hx217_2); (try clear hx217_3); (try clear p2); (try clear p216); (try clear p217); (try clear p6); (try clear q2); (try clear q216); (try clear q217)
           obtain ⟨x10_4, x11_4, rfl, rfl, HA, HK4, BK213, HB⟩ := hrel
           cases gk with
           | zero => exact absurd HA.out (by simp [remontoirref10_Cycle.l2])
           | succ k4 =>
            have H := HA.out
            clear HA
            simp only [remontoirref10_Cycle.l2] at H
            by_cases c19 : x11_4 < (l0.length : Int)
            ·rw [if_pos c19] at H
             have c19b0 : decide (x11_4 < (l0.length : Int)) = true := decide_eq_true c19
             clear c19
             by_cases c20 : x10_4 = true
             ·subst c20
              have H1 : (if 0 ≤ x11_4 then (if ((rd_T41 l0 x11_4).f2) = 0 then (none) else (remontoirref10_Cycle.l2 k4 l0 x7_2 x9_3 ((Int.tmod x9_3 ((rd_T41 l0 x11_4).f2)) == 0) (wrap64 (x11_4 + 1)) a1_0 a1_1)) else (none)) = some (r1, r2, r3) := by rw [if_pos rfl] at H; exact H
              clear H
              have H := H1
              clear H1
              by_cases c21 : 0 ≤ x11_4
              ·rw [if_pos c21] at H
               have c21b0 : decide (0 ≤ x11_4) = true := decide_eq_true c21
               clear c21
               by_cases c22 : ((rd_T41 l0 x11_4).f2) = 0
               ·rw [if_pos c22] at H
                exact absurd H (by simp)
               ·rw [if_neg c22] at H
                have c22b0 : (((rd_T41 l0 x11_4).f2) == 0) = false := beq_eq_false_iff_ne.mpr c22
                have c22b1 : (((rd_T41 l0 x11_4).f2) != 0) = true := bne_iff_ne.mpr c22
                have H' := Aside0.mk H
                clear H
                have p218 : 0 ≤ (x11_4 : Int) := of_decide_eq_true (by first | (with_reducible assumption) | assumption)
                have q218 : x11_4 < (l0.length : Int) := of_decide_eq_true (by first | (with_reducible assumption) | assumption)
                obtain ⟨ad218, A218_3, c218_3, e218, hx218_0, hx218_1, hx218_2, hx218_3, hl218_3, hi218_3⟩ := at_T41 HR0.out x11_4 p218 q218
                cases e218
                replace hx218_0 := (HB.out.cell (World.block_lt_of_cell? w _ hx218_0)).trans hx218_0
                replace hx218_1 := (HB.out.cell (World.block_lt_of_cell? w _ hx218_1)).trans hx218_1
                replace hx218_2 := (HB.out.cell (World.block_lt_of_cell? w _ hx218_2)).trans hx218_2
                replace hx218_3 := (HB.out.cell (World.block_lt_of_cell? w _ hx218_3)).trans hx218_3
                have HR218_3 := Aside0.mk hi218_3
                have HC218_3 := Aside0.mk hl218_3
                clear hi218_3 hl218_3
                replace p218 := eq_true p218
                replace q218 := eq_true q218
                go_wp2
                go_roundg k4
                case measure => have := HJ2.out; have := HK2.out; have := HK3.out; have := HK4.out; omega
                case rel => exact ⟨(((Int.tmod x9_3 ((rd_T41 l0 x11_4).f2)) == 0)), (wrap64 (x11_4 + 1)), (by first | rfl | (simp; done) | (simp [*]; done)), (by first | rfl | (simp; done) | (simp [*]; done)), H', ⟨by have := HJ2.out; have := HK2.out; have := HK3.out; have := HK4.out; omega⟩, ⟨by (with_reducible repeat (first | refine blk_drewN ?_ _ | refine blk_drew ?_ | refine blk_alloc ?_ _)); exact BK213.out⟩, ⟨by repeat (first | (with_reducible first | exact HB.out | apply below_alloc | apply pw_below_drewN | apply below_drew1 | refine below_set ?_ GE213.out) | exact HB.out)⟩⟩
              ·rw [if_neg c21] at H
               exact absurd H (by simp)
             ·replace c20 := Bool.eq_false_iff.mpr c20
              subst c20
              have H1 : (remontoirref10_Cycle.l2 k4 l0 x7_2 x9_3 false (wrap64 (x11_4 + 1)) a1_0 a1_1) = some (r1, r2, r3) := by rw [if_neg (show ¬ (false = true) by decide)] at H; exact H
              clear H
              have H := H1
              clear H1
              have H' := Aside0.mk H
              clear H
              go_wp2
              go_roundg k4
              case measure => have := HJ2.out; have := HK2.out; have := HK3.out; have := HK4.out; omega
              case rel => exact ⟨(false), (wrap64 (x11_4 + 1)), (by first | rfl | (simp; done) | (simp [*]; done)), (by first | rfl | (simp; done) | (simp [*]; done)), H', ⟨by have := HJ2.out; have := HK2.out; have := HK3.out; have := HK4.out; omega⟩, ⟨by (with_reducible repeat (first | refine blk_drewN ?_ _ | refine blk_drew ?_ | refine blk_alloc ?_ _)); exact BK213.out⟩, ⟨by repeat (first | (with_reducible first | exact HB.out | apply below_alloc | apply pw_below_drewN | apply below_drew1 | refine below_set ?_ GE213.out) | exact HB.out)⟩⟩
            ·rw [if_neg c19] at H
             have c19b0 : decide (x11_4 < (l0.length : Int)) = false := decide_eq_false c19
             clear c19
             by_cases c23 : x10_4 = true
             ·subst c23
              have H1 : (some (x9_3, wrap64 (x9_3 + x7_2), 0)) = some (r1, r2, r3) := by rw [if_pos rfl] at H; exact H
              clear H
              have H := H1
              clear H1
              simp only [Option.some.injEq, Prod.mk.injEq] at H
              obtain ⟨rfl, rfl, rfl⟩ := H
              go_wp2
              go_ret3
              exact ⟨by first | rfl | (simp [errW_none, errW_some] <;> rfl) | (simp [*, errW_none, errW_some] <;> rfl), by repeat (first | (with_reducible first | exact HB.out | apply below_alloc | apply pw_below_drewN | apply below_drew1 | refine below_set ?_ GE213.out) | exact HB.out)⟩
             ·replace c23 := Bool.eq_false_iff.mpr c23
              subst c23
              have H1 : (remontoirref10_Cycle.l1 k4 l0 x7_2 (wrap64 (x9_3 + a1_0)) a1_0 a1_1) = some (r1, r2, r3) := by rw [if_neg (show ¬ (false = true) by decide)] at H; exact H
              clear H
              have H := H1
              clear H1
              have H' := Aside0.mk H
              clear H
              have hcz24_0 : wr.cell? ⟨gb213, 0, none⟩ = some (.int .i64 a1_0) := (blk_cell BK213.out 0).trans rfl
              have hcz24_1 : wr.cell? ⟨gb213, 1, none⟩ = some (.int .i64 a1_1) := (blk_cell BK213.out 1).trans rfl
              have hfz24_0 := blk_frozen BK213.out 0
              have hfz24_1 := blk_frozen BK213.out 1
              go_wp2
              go_roundg k4
              case measure => have := HJ2.out; have := HK2.out; have := HK3.out; have := HK4.out; omega
              case rel => exact ⟨(wrap64 (x9_3 + a1_0)), (by first | rfl | (simp; done) | (simp [*]; done)), H', ⟨by have := HJ2.out; have := HK2.out; have := HK3.out; have := HK4.out; omega⟩, ⟨by (with_reducible repeat (first | refine blk_drewN ?_ _ | refine blk_drew ?_ | refine blk_alloc ?_ _)); exact BK213.out⟩, ⟨by repeat (first | (with_reducible first | exact HB.out | apply below_alloc | apply pw_below_drewN | apply below_drew1 | refine below_set ?_ GE213.out) | exact HB.out)⟩⟩
         ·rw [if_neg c18] at H
          have c18b0 : decide ((wrap64 (x9_3 + x7_2)) ≤ 3000) = false := decide_eq_false c18
          clear c18
          simp only [Option.some.injEq, Prod.mk.injEq] at H
          obtain ⟨rfl, rfl, rfl⟩ := H
          go_wp2
          go_ret3
          exact ⟨by first | rfl | (simp [errW_none, errW_some] <;> rfl) | (simp [*, errW_none, errW_some] <;> rfl), by repeat (first | (with_reducible first | exact HB.out | apply below_alloc | apply pw_below_drewN | apply below_drew1 | refine below_set ?_ GE213.out) | exact HB.out)⟩
def lcmAll : List (S41) → Int → Int
  | [], c => c
  | x :: r, c => lcmAll r (Int.lcm c x.f2)
def farAll : List (S41) → Int → Int
  | [], c => c
  | x :: r, c => farAll r (max c x.f1)
theorem farAll_ge : ∀ (l : List (S41)) (c : Int), c ≤ farAll l c
  | [], c => Int.le_refl _
  | x :: r, c => Int.le_trans (by omega) (farAll_ge r (max c x.f1))
theorem lcmAll_facts : ∀ (l : List (S41)) (c : Int), (∀ x ∈ l, okT x = true) → 1 ≤ c → 1 ≤ lcmAll l c ∧ c ∣ lcmAll l c ∧ (∀ x ∈ l, x.f2 ∣ lcmAll l c) ∧ ∀ m, c ∣ m → (∀ x ∈ l, x.f2 ∣ m) → lcmAll l c ∣ m
  | [], c, _, hc => ⟨hc, Int.dvd_refl _, fun x hx => by simp at hx, fun m hm _ => hm⟩
  | x :: r, c, hok, hc => by
    have hx := okTask_nums (hok x List.mem_cons_self)
    obtain ⟨h1, h2, h3, h4⟩ := lcmAll_facts r (Int.lcm c x.f2) (fun y hy => hok y (List.mem_cons_of_mem _ hy)) (lcm_pos_ hc (by omega))
    refine ⟨h1, Int.dvd_trans (Int.dvd_lcm_left _ _) h2, fun y hy => ?_, fun m hm hr => h4 m (Int.coe_lcm_dvd hm (hr x List.mem_cons_self)) (fun y hy => hr y (List.mem_cons_of_mem _ hy))⟩
    rcases List.mem_cons.1 hy with rfl | hy
    · exact Int.dvd_trans (Int.dvd_lcm_right _ _) h2
    · exact h3 y hy
theorem cycS_eq : ∀ (l : List (S41)) (c far : Int), (∀ x ∈ l, okT x = true) → 1 ≤ c → 0 ≤ far → cycS l c far = if lcmAll l c + farAll l far ≤ 3000 then some (lcmAll l c, farAll l far) else none
  | [], c, far, _, _, _ => by
    unfold cycS lcmAll farAll
    by_cases h : c + far > 3000
    · rw [if_pos h, if_neg (by omega)]
    · rw [if_neg h, if_pos (by omega)]
  | x :: r, c, far, hok, hc, hf => by
    have hx := okTask_nums (hok x List.mem_cons_self)
    have hr : ∀ y ∈ r, okT y = true := fun y hy => hok y (List.mem_cons_of_mem _ hy)
    have hp := lcm_pos_ (a := c) (b := x.f2) hc (by omega)
    have ih := cycS_eq r (Int.lcm c x.f2) (max far x.f1) hr hp (by omega)
    obtain ⟨h1, h2, _, _⟩ := lcmAll_facts r (Int.lcm c x.f2) hr hp
    have hge := Int.le_of_dvd (by omega) h2
    have hfa := farAll_ge r (max far x.f1)
    conv => lhs; unfold cycS
    unfold lcmAll farAll
    by_cases h : (Int.lcm c x.f2 : Int) > 3000
    · rw [if_pos h, if_neg (by omega)]
    · rw [if_neg h, ih]
theorem remontoirref10_Cycle.l2_ev (l : List (S41)) (far x p b : Int) (hlen : (l.length : Int) ≤ 1000000) (hok : ∀ y ∈ l, okT y = true) (hx : 1 ≤ x ∧ x ≤ 3000 ∧ 0 ≤ far ∧ far ≤ 3000) (r : Int × Int × Int)
    (hr : (¬ ∀ y ∈ l, y.f2 ∣ x) → Ev (fun k => remontoirref10_Cycle.l1 k l far (wrap64 (x + p)) p b) r) :
    ∀ (rest pre : List (S41)), pre ++ rest = l → Ev (fun k => remontoirref10_Cycle.l2 k l far x (pre.all fun y => decide (y.f2 ∣ x)) (pre.length : Int) p b) (if (∀ y ∈ l, y.f2 ∣ x) then (x, x + far, 0) else r) := by
  intro rest
  induction rest with
  | nil =>
    intro pre hp
    have e : pre = l := by simpa using hp
    subst e
    by_cases h : ∀ y ∈ pre, y.f2 ∣ x
    · have hb : (pre.all fun y => decide (y.f2 ∣ x)) = true := by rw [List.all_eq_true]; intro y hy; exact decide_eq_true (h y hy)
      rw [if_pos h, hb]
      refine Ev.step (f := fun _ => some (x, x + far, 0)) (fun k => ?_) (Ev.now _)
      simp only [remontoirref10_Cycle.l2]
      rw [if_neg (by omega), if_pos trivial, w64 (by omega)]
    · have hb : (pre.all fun y => decide (y.f2 ∣ x)) = false := by
        rw [Bool.eq_false_iff]; intro q; rw [List.all_eq_true] at q; exact h (fun y hy => of_decide_eq_true (q y hy))
      rw [if_neg h, hb]
      refine Ev.step (fun k => ?_) (hr h)
      simp only [remontoirref10_Cycle.l2]
      rw [if_neg (by omega), if_neg (by simp)]
  | cons y rest ih =>
    intro pre hp
    have hpl : (pre.length : Int) < (l.length : Int) := by rw [← hp]; simp; omega
    have e : rd_T41 l (pre.length : Int) = y := by rw [← hp]; exact getD_mid _ _ _ _
    have hy := okTask_nums (hok y (by rw [← hp]; simp))
    have hw : wrap64 ((pre.length : Int) + 1) = (((pre ++ [y]).length : Nat) : Int) := by rw [wrap_succ _ (by omega)]; simp
    have ih2 := ih (pre ++ [y]) (by simpa using hp)
    have ea : ((pre ++ [y]).all fun z => decide (z.f2 ∣ x)) = ((pre.all fun z => decide (z.f2 ∣ x)) && decide (y.f2 ∣ x)) := by simp
    rw [ea] at ih2
    by_cases hb : (pre.all fun z => decide (z.f2 ∣ x)) = true
    · rw [hb] at ih2 ⊢
      refine Ev.step (fun k => ?_) (by simpa only [Bool.true_and] using ih2)
      simp only [remontoirref10_Cycle.l2]
      have em : Int.tmod x y.f2 = x % y.f2 := Int.tmod_eq_emod_of_nonneg (by omega)
      have eb : (x % y.f2 == 0) = decide (y.f2 ∣ x) := by
        rw [Bool.eq_iff_iff, beq_iff_eq, decide_eq_true_eq]
        exact (Int.dvd_iff_emod_eq_zero).symm
      rw [if_pos hpl, if_pos trivial, if_pos (by omega), e, if_neg (by omega), em, eb, hw]
    · have hb' : (pre.all fun z => decide (z.f2 ∣ x)) = false := by simpa using hb
      rw [hb'] at ih2 ⊢
      refine Ev.step (fun k => ?_) (by simpa only [Bool.false_and] using ih2)
      simp only [remontoirref10_Cycle.l2]
      rw [if_pos hpl, if_neg (by simp), hw]
theorem remontoirref10_Cycle.l1_ev (l : List (S41)) (far p b : Int) (hlen : (l.length : Int) ≤ 1000000) (hok : ∀ y ∈ l, okT y = true) (hp : 1 ≤ p ∧ p ≤ 200) (hf : 0 ≤ far ∧ far ≤ 3000) :
    ∀ (n : Nat) (x : Int), 3000 - x < n → 1 ≤ x → x ≤ 3200 → p ∣ x → x ≤ lcmAll l p → Ev (fun k => remontoirref10_Cycle.l1 k l far x p b) (if lcmAll l p + far ≤ 3000 then (lcmAll l p, lcmAll l p + far, 0) else (0, 0, 5)) := by
  obtain ⟨L1, L2, L3, L4⟩ := lcmAll_facts l p hok hp.1
  intro n
  induction n with
  | zero =>
    intro x h0 h1 h2 h3 h4
    rw [if_neg (by omega)]
    refine Ev.step (f := fun _ => some (0, 0, 5)) (fun k => ?_) (Ev.now _)
    simp only [remontoirref10_Cycle.l1]
    rw [w64 (by omega), if_neg (by omega)]
  | succ n ih =>
    intro x h0 h1 h2 h3 h4
    by_cases h : x + far ≤ 3000
    · have hall : (∀ y ∈ l, y.f2 ∣ x) → x = lcmAll l p := fun hq => Int.le_antisymm h4 (Int.le_of_dvd (by omega) (L4 x h3 hq))
      have h2' := remontoirref10_Cycle.l2_ev l far x p b hlen hok ⟨h1, by omega, hf.1, hf.2⟩ (if lcmAll l p + far ≤ 3000 then (lcmAll l p, lcmAll l p + far, 0) else (0, 0, 5)) (fun hn => by
        have hne : x ≠ lcmAll l p := fun hq => hn (fun y hy => by rw [hq]; exact L3 y hy)
        have hdv : p ∣ lcmAll l p - x := Int.dvd_sub L2 h3
        have hge := Int.le_of_dvd (by omega) hdv
        rw [w64 (by omega)]
        exact ih (x + p) (by omega) (by omega) (by omega) (Int.dvd_add h3 (Int.dvd_refl _)) (by omega)) l [] rfl
      refine Ev.step (f := fun k => remontoirref10_Cycle.l2 k l far x true 0 p b) (fun k => ?_) ?_
      · simp only [remontoirref10_Cycle.l1]
        rw [w64 (by omega), if_pos h]
      · by_cases hq : ∀ y ∈ l, y.f2 ∣ x
        · rw [if_pos hq] at h2'
          have ex := hall hq
          rw [← ex, if_pos h]; simpa using h2'
        · rw [if_neg hq] at h2'; simpa using h2'
    · rw [if_neg (by omega)]
      refine Ev.step (f := fun _ => some (0, 0, 5)) (fun k => ?_) (Ev.now _)
      simp only [remontoirref10_Cycle.l1]
      rw [w64 (by omega), if_neg h]
theorem remontoirref10_Cycle.l0_ev (l : List (S41)) (p b : Int) (hlen : (l.length : Int) ≤ 1000000) (hok : ∀ y ∈ l, okT y = true) (hp : 1 ≤ p ∧ p ≤ 200) :
    ∀ (rest pre : List (S41)) (far : Int), pre ++ rest = l → 0 ≤ far ∧ far ≤ 400 → Ev (fun k => remontoirref10_Cycle.l0 k l far (pre.length : Int) p b) (if lcmAll l p + farAll rest far ≤ 3000 then (lcmAll l p, lcmAll l p + farAll rest far, 0) else (0, 0, 5)) := by
  obtain ⟨L1, L2, L3, L4⟩ := lcmAll_facts l p hok hp.1
  intro rest
  induction rest with
  | nil =>
    intro pre far hpre hf
    have e : pre = l := by simpa using hpre
    have h1 := remontoirref10_Cycle.l1_ev l far p b hlen hok hp ⟨hf.1, by omega⟩ 3001 p (by omega) (by omega) (by omega) (Int.dvd_refl _) (Int.le_of_dvd (by omega) L2)
    refine Ev.step (fun k => ?_) h1
    simp only [remontoirref10_Cycle.l0]
    rw [if_neg (by rw [e]; omega)]
  | cons y rest ih =>
    intro pre far hpre hf
    have hpl : (pre.length : Int) < (l.length : Int) := by rw [← hpre]; simp; omega
    have e : rd_T41 l (pre.length : Int) = y := by rw [← hpre]; exact getD_mid _ _ _ _
    have hy := okTask_nums (hok y (by rw [← hpre]; simp))
    have hw : wrap64 ((pre.length : Int) + 1) = (((pre ++ [y]).length : Nat) : Int) := by rw [wrap_succ _ (by omega)]; simp
    have ih2 := ih (pre ++ [y]) (max far y.f1) (by simpa using hpre) (by omega)
    refine Ev.step (f := fun k => remontoirref10_Cycle.l0 k l (max far y.f1) (((pre ++ [y]).length : Nat) : Int) p b) (fun k => ?_) ih2
    simp only [remontoirref10_Cycle.l0]
    by_cases h : y.f1 > far
    · rw [if_pos hpl, if_pos (by omega), e, if_pos h, hw, show max far y.f1 = y.f1 by omega]
    · rw [if_pos hpl, if_pos (by omega), e, if_neg h, hw, show max far y.f1 = far by omega]
theorem remontoirref10_Cycle.ev (l : List (S41)) (p b : Int) (hlen : (l.length : Int) ≤ 1000000) : Ev (fun k => remontoirref10_Cycle.f k l p b) (cycF l p b) := by
  have hj : Ev (fun k => remontoirref10_Cycle.j0 k l true p b) (0, 0, 1) := by
    refine Ev.step (f := fun _ => some (0, 0, 1)) (fun k => ?_) (Ev.now _)
    simp only [remontoirref10_Cycle.j0]
    rw [if_pos trivial]
  refine Ev.congr (f := fun k => (remontoirref05_All.f k l).bind fun t => if t = true then remontoirref10_Cycle.j0 k l (!okFace p b) p b else remontoirref10_Cycle.j0 k l true p b) (fun k => ?_) (Ev.bind (remontoirref05_All.ev l hlen) ?_)
  · unfold remontoirref10_Cycle.f; rw [remontoirref09_Right.ev]; rfl
  · unfold cycF
    by_cases h : okAll l = true
    · by_cases h2 : okFace p b = true
      · obtain ⟨hok, _⟩ := okAll_parts h
        have hpp := okFace_iff.mp h2
        rw [if_pos ⟨h, h2⟩, h, h2, cycS_eq l p (2 * p) hok (by omega) (by omega)]
        have h0 := remontoirref10_Cycle.l0_ev l p b hlen hok ⟨by omega, by omega⟩ l [] (2 * p) rfl ⟨by omega, by omega⟩
        have e : cycR (if lcmAll l p + farAll l (2 * p) ≤ 3000 then some (lcmAll l p, farAll l (2 * p)) else none) = (if lcmAll l p + farAll l (2 * p) ≤ 3000 then (lcmAll l p, lcmAll l p + farAll l (2 * p), 0) else (0, 0, 5)) := by split <;> rfl
        rw [e]
        refine Ev.step (fun k => ?_) h0
        rw [if_pos rfl]
        simp only [remontoirref10_Cycle.j0]
        rw [if_neg (by simp), w64 (by omega)]
        rfl
      · have h2' : okFace p b = false := by simpa using h2
        rw [if_neg (fun q => h2 q.2), h, h2']
        simpa using hj
    · have h' : okAll l = false := by simpa using h
      rw [if_neg (fun q => h q.1), h']
      simpa using hj
end Go.Proofs.Ytljgloljncokeaa.PQa
