-- Written by a program of this session (pp.py, over the kit's print) out of the translation; functions with closures by hand.
import Derived.Test.YtljgloljncokeaaQa0
import Derived.Test.YtljgloljncokeaaQa2
import Derived.Test.YtljgloljncokeaaQa3
import Derived.Test.YtljgloljncokeaaQa4
import Derived.Test.YtljgloljncokeaaQa5
namespace Go.Proofs.Ytljgloljncokeaa.PQa
open Go.RowKit Go.Proofs.YtljgloljncokeaaW.PrintWords Go.Proofs.YtljgloljncokeaaW.PrintLast Go.Proofs.YtljgloljncokeaaW.PrintMore
attribute [local go_sem] max2_int min2_int max_two min_two max_three min_three max_four min_four   -- for this text's walks alone
set_option linter.unusedVariables false
set_option linter.unusedSimpArgs false
/-! ### supply_Bound: function 14 -/
def supply_Bound.j0 : Nat → Int → Bool → Int → Int → Option (Int × Int)
 | 0, _, _, _, _ => none
 | k + 1, x1, x18, x172000, x172001 => if x18 = true then (some (0, 1)) else (if x1 < (wrap64 (x172000 - x172001)) then (some (0, 0)) else (if x172000 = 0 then (none) else (some (wrap64 ((wrap64 ((wrap64 (Int.tdiv (wrap64 (x1 - (wrap64 (x172000 - x172001)))) x172000)) * x172001)) + (mx 0 (wrap64 ((wrap64 (x1 - (wrap64 (2 * (wrap64 (x172000 - x172001)))))) - (wrap64 ((wrap64 (Int.tdiv (wrap64 (x1 - (wrap64 (x172000 - x172001)))) x172000)) * x172000)))))), 0))))
def supply_Bound.f (k : Nat) (a0_0 : Int) (a0_1 : Int) (a1 : Int) : Option (Int × Int) := (supply_Right.f a0_0 a0_1).bind fun t172 => (if t172 = true then (if a1 < 0 then (supply_Bound.j0 k a1 true a0_0 a0_1) else (supply_Bound.j0 k a1 (decide (a1 > 4611686018427387903)) a0_0 a0_1)) else (supply_Bound.j0 k a1 true a0_0 a0_1))
set_option maxHeartbeats 8000000 in
set_option maxRecDepth 100000 in
theorem supply_Bound.calls (k : Nat) (a0_0 : Int) (a0_1 : Int) (a1 : Int) (r1 : Int) (r2 : Int) (w : World) (h : supply_Bound.f k a0_0 a0_1 a1 = some (r1, r2)) :
  Calls Try.prog 14 #[.agg #[.int .i64 a0_0, .int .i64 a0_1], .int .i64 a1] w fun e w' => e = .returned (.tuple #[.int .i64 r1, .int .i64 r2]) ∧ Below w.heap.size w w' := by
 have hu24 := Try.underlying24
 have HB := Aside0.mk (Below.refl w.heap.size w)
 have H : ((supply_Right.f a0_0 a0_1).bind fun t172 => (if t172 = true then (if a1 < 0 then (supply_Bound.j0 k a1 true a0_0 a0_1) else (supply_Bound.j0 k a1 (decide (a1 > 4611686018427387903)) a0_0 a0_1)) else (supply_Bound.j0 k a1 true a0_0 a0_1))) = some (r1, r2) := h
 clear h
 have HC3 := Aside0.mk H
 clear H
 go_enter Try.func14, Try.ntmps14
 go_upto_region 1 with (first | ((with_reducible refine gate_dst (N := 2) rfl ?_); refine box_event ?hg (N := 2) ?hd (cs := #[.int .i64 a0_0, .int .i64 a0_1]) (t := 24) ?hr ?_; (case hd => rfl); (case hg => rfl); (case hr => first | (go_simp; done) | (go_simp; rfl)); intro gb171 hg w4 hbox hb; have n0_ := Aside0.mk (below_step (by repeat (first | (with_reducible first | exact HB.out | apply below_alloc | apply pw_below_drewN | apply below_drew1) | exact HB.out)) hb); have n1_ := Aside0.mk (hbox); have n2_ := Aside0.mk ((by rw [hg]; exact (below_size (by repeat (first | (with_reducible first | exact HB.out | apply below_alloc | apply pw_below_drewN | apply below_drew1) | exact HB.out))) : w.heap.size ≤ gb171)); have n3_ := Aside0.mk ((by rw [hg]; exact (below_size (by repeat (first | (with_reducible first | exact HB.out | apply below_alloc | apply pw_below_drewN | apply below_drew1) | exact HB.out))) : w.heap.size ≤ gb171)); clear HB; have HB := n0_; have BK171 := n1_; have GW171 := n2_; have GE171 := n3_; clear n0_ n1_ n2_ n3_; clear hb hbox hg))
 (try simp only [Act.put, List.setIfInBounds_toArray, List.set_cons_zero, List.set_cons_succ])
 go_cut [18] (fun v18 wc => ∃ (kq : Nat) (x18_2 : Bool), v18 = .bool x18_2 ∧ Aside0 (supply_Bound.j0 kq a1 x18_2 a0_0 a0_1 = some (r1, r2)) ∧ Aside0 (kq ≤ k) ∧ Aside0 (wc.heap[gb171]? = some (.cells #[.int .i64 a0_0, .int .i64 a0_1] 24 (0, 0))) ∧ Aside0 (Below w.heap.size w wc))
 case first =>
  have H := HC3.out
  clear HC3
  replace H := Option.bind_eq_some_iff.mp H
  obtain ⟨t172, A50, H⟩ := H
  replace H : (if t172 = true then (if a1 < 0 then (supply_Bound.j0 k a1 true a0_0 a0_1) else (supply_Bound.j0 k a1 (decide (a1 > 4611686018427387903)) a0_0 a0_1)) else (supply_Bound.j0 k a1 true a0_0 a0_1)) = some (r1, r2) := H
  have A5 := Aside0.mk A50
  clear A50
  by_cases c6 : t172 = true
  ·subst c6
   have H1 : (if a1 < 0 then (supply_Bound.j0 k a1 true a0_0 a0_1) else (supply_Bound.j0 k a1 (decide (a1 > 4611686018427387903)) a0_0 a0_1)) = some (r1, r2) := by rw [if_pos rfl] at H; exact H
   clear H
   have H := H1
   clear H1
   by_cases c7 : a1 < 0
   ·rw [if_pos c7] at H
    have c7b0 : decide (a1 < 0) = true := decide_eq_true c7
    clear c7
    (first | rw [c7b0] | (simp only [i64_w, i32_w]; rw [c7b0]) | skip)
    have H' := Aside0.mk H
    clear H
    have hcz8_0 : w4.cell? ⟨gb171, 0, none⟩ = some (.int .i64 a0_0) := (blk_cell BK171.out 0).trans rfl
    have hcz8_1 : w4.cell? ⟨gb171, 1, none⟩ = some (.int .i64 a0_1) := (blk_cell BK171.out 1).trans rfl
    have hfz8_0 := blk_frozen BK171.out 0
    have hfz8_1 := blk_frozen BK171.out 1
    go_wp2_with (first | ((with_reducible refine gate_callee (f := 27) rfl ?_); refine goesL_ (some 9) rfl rfl Try.func27 (by kernel_rfl) rfl #[.agg #[.int .i64 a0_0, .int .i64 a0_1]] rfl (by (try simp only [List.map_toArray, List.map_cons, List.map_nil]); first | done | rfl | (simp only [List.length_drop, List.length_take]; rfl)) ?_; (with_reducible refine (supply_Right.calls a0_0 a0_1 true _ A5.out).mono ?_); rintro e w9 ⟨rfl, hb⟩; refine ⟨_, rfl, ?_⟩; have n0_ := Aside0.mk (blk_below (g := gb171) (o := .cells #[.int .i64 a0_0, .int .i64 a0_1] 24 (0, 0)) (by (with_reducible repeat (first | refine blk_drewN ?_ _ | refine blk_drew ?_ | refine blk_alloc ?_ _)); exact BK171.out) hb); have n1_ := Aside0.mk (below_step (by repeat (first | (with_reducible first | exact HB.out | apply below_alloc | apply pw_below_drewN | apply below_drew1 | refine below_set ?_ GE171.out) | exact HB.out)) hb); clear BK171; clear HB; have BK171 := n0_; have HB := n1_; clear n0_ n1_; (try clear hb); (try clear hb2); (try clear hk); (try clear hi)))
    go_meet
    case rel => exact ⟨_, (true), (by first | rfl | (simp; done) | (simp [*]; done)), H', ⟨by first | omega | exact Nat.le_refl _⟩, ⟨by (with_reducible repeat (first | refine blk_drewN ?_ _ | refine blk_drew ?_ | refine blk_alloc ?_ _)); exact BK171.out⟩, ⟨by repeat (first | (with_reducible first | exact HB.out | apply below_alloc | apply pw_below_drewN | apply below_drew1 | refine below_set ?_ GE171.out) | exact HB.out)⟩⟩
   ·rw [if_neg c7] at H
    have c7b0 : decide (a1 < 0) = false := decide_eq_false c7
    clear c7
    (first | rw [c7b0] | (simp only [i64_w, i32_w]; rw [c7b0]) | skip)
    have H' := Aside0.mk H
    clear H
    have hcz10_0 : w4.cell? ⟨gb171, 0, none⟩ = some (.int .i64 a0_0) := (blk_cell BK171.out 0).trans rfl
    have hcz10_1 : w4.cell? ⟨gb171, 1, none⟩ = some (.int .i64 a0_1) := (blk_cell BK171.out 1).trans rfl
    have hfz10_0 := blk_frozen BK171.out 0
    have hfz10_1 := blk_frozen BK171.out 1
    go_wp2_with (first | ((with_reducible refine gate_callee (f := 27) rfl ?_); refine goesL_ (some 9) rfl rfl Try.func27 (by kernel_rfl) rfl #[.agg #[.int .i64 a0_0, .int .i64 a0_1]] rfl (by (try simp only [List.map_toArray, List.map_cons, List.map_nil]); first | done | rfl | (simp only [List.length_drop, List.length_take]; rfl)) ?_; (with_reducible refine (supply_Right.calls a0_0 a0_1 true _ A5.out).mono ?_); rintro e w11 ⟨rfl, hb⟩; refine ⟨_, rfl, ?_⟩; have n0_ := Aside0.mk (blk_below (g := gb171) (o := .cells #[.int .i64 a0_0, .int .i64 a0_1] 24 (0, 0)) (by (with_reducible repeat (first | refine blk_drewN ?_ _ | refine blk_drew ?_ | refine blk_alloc ?_ _)); exact BK171.out) hb); have n1_ := Aside0.mk (below_step (by repeat (first | (with_reducible first | exact HB.out | apply below_alloc | apply pw_below_drewN | apply below_drew1 | refine below_set ?_ GE171.out) | exact HB.out)) hb); clear BK171; clear HB; have BK171 := n0_; have HB := n1_; clear n0_ n1_; (try clear hb); (try clear hb2); (try clear hk); (try clear hi)))
    go_meet
    case rel => exact ⟨_, (decide (a1 > 4611686018427387903)), (by first | rfl | (simp; done) | (simp [*]; done)), H', ⟨by first | omega | exact Nat.le_refl _⟩, ⟨by (with_reducible repeat (first | refine blk_drewN ?_ _ | refine blk_drew ?_ | refine blk_alloc ?_ _)); exact BK171.out⟩, ⟨by repeat (first | (with_reducible first | exact HB.out | apply below_alloc | apply pw_below_drewN | apply below_drew1 | refine below_set ?_ GE171.out) | exact HB.out)⟩⟩
  ·replace c6 := Bool.eq_false_iff.mpr c6
   subst c6
   have H1 : (supply_Bound.j0 k a1 true a0_0 a0_1) = some (r1, r2) := by rw [if_neg (show ¬ (false = true) by decide)] at H; exact H
   clear H
   have H := H1
   clear H1
   have H' := Aside0.mk H
   clear H
   have hcz12_0 : w4.cell? ⟨gb171, 0, none⟩ = some (.int .i64 a0_0) := (blk_cell BK171.out 0).trans rfl
   have hcz12_1 : w4.cell? ⟨gb171, 1, none⟩ = some (.int .i64 a0_1) := (blk_cell BK171.out 1).trans rfl
   have hfz12_0 := blk_frozen BK171.out 0
   have hfz12_1 := blk_frozen BK171.out 1
   go_wp2_with (first | ((with_reducible refine gate_callee (f := 27) rfl ?_); refine goesL_ (some 9) rfl rfl Try.func27 (by kernel_rfl) rfl #[.agg #[.int .i64 a0_0, .int .i64 a0_1]] rfl (by (try simp only [List.map_toArray, List.map_cons, List.map_nil]); first | done | rfl | (simp only [List.length_drop, List.length_take]; rfl)) ?_; (with_reducible refine (supply_Right.calls a0_0 a0_1 false _ A5.out).mono ?_); rintro e w13 ⟨rfl, hb⟩; refine ⟨_, rfl, ?_⟩; have n0_ := Aside0.mk (blk_below (g := gb171) (o := .cells #[.int .i64 a0_0, .int .i64 a0_1] 24 (0, 0)) (by (with_reducible repeat (first | refine blk_drewN ?_ _ | refine blk_drew ?_ | refine blk_alloc ?_ _)); exact BK171.out) hb); have n1_ := Aside0.mk (below_step (by repeat (first | (with_reducible first | exact HB.out | apply below_alloc | apply pw_below_drewN | apply below_drew1 | refine below_set ?_ GE171.out) | exact HB.out)) hb); clear BK171; clear HB; have BK171 := n0_; have HB := n1_; clear n0_ n1_; (try clear hb); (try clear hb2); (try clear hk); (try clear hi)))
   go_meet
   case rel => exact ⟨_, (true), (by first | rfl | (simp; done) | (simp [*]; done)), H', ⟨by first | omega | exact Nat.le_refl _⟩, ⟨by (with_reducible repeat (first | refine blk_drewN ?_ _ | refine blk_drew ?_ | refine blk_alloc ?_ _)); exact BK171.out⟩, ⟨by repeat (first | (with_reducible first | exact HB.out | apply below_alloc | apply pw_below_drewN | apply below_drew1 | refine below_set ?_ GE171.out) | exact HB.out)⟩⟩
 case rest =>
  clear HC3
  (try clear c1); (try clear c2); (try clear p2); (try clear c6); (try clear c7); (try clear c7b0); (try clear hcz10_0); (try clear hcz10_1); (try clear hcz12_0); (try clear hcz12_1); (try clear hcz8_0); (try clear hcz8_1); (try clear hfz10_0); (try clear hfz10_1); (try clear hfz12_0); (try clear hfz12_1); (try clear hfz8_0); (try clear hfz8_1)
  obtain ⟨kq, x18_2, rfl, HA, HJ2, BK171, HB⟩ := hcut
  cases kq with
  | zero => exact absurd HA.out (by simp [supply_Bound.j0])
  | succ kj2 =>
   have H := HA.out
   clear HA
   simp only [supply_Bound.j0] at H
   by_cases c14 : x18_2 = true
   ·subst c14
    have H1 : (some (0, 1)) = some (r1, r2) := by rw [if_pos rfl] at H; exact H
    clear H
    have H := H1
    clear H1
    simp only [Option.some.injEq, Prod.mk.injEq] at H
    obtain ⟨rfl, rfl⟩ := H
    go_wp2
    go_ret2
    exact ⟨by first | rfl | (simp [errW_none, errW_some] <;> rfl) | (simp [*, errW_none, errW_some] <;> rfl), by repeat (first | (with_reducible first | exact HB.out | apply below_alloc | apply pw_below_drewN | apply below_drew1 | refine below_set ?_ GE171.out) | exact HB.out)⟩
   ·replace c14 := Bool.eq_false_iff.mpr c14
    subst c14
    have H1 : (if a1 < (wrap64 (a0_0 - a0_1)) then (some (0, 0)) else (if a0_0 = 0 then (none) else (some (wrap64 ((wrap64 ((wrap64 (Int.tdiv (wrap64 (a1 - (wrap64 (a0_0 - a0_1)))) a0_0)) * a0_1)) + (mx 0 (wrap64 ((wrap64 (a1 - (wrap64 (2 * (wrap64 (a0_0 - a0_1)))))) - (wrap64 ((wrap64 (Int.tdiv (wrap64 (a1 - (wrap64 (a0_0 - a0_1)))) a0_0)) * a0_0)))))), 0)))) = some (r1, r2) := by rw [if_neg (show ¬ (false = true) by decide)] at H; exact H
    clear H
    have H := H1
    clear H1
    by_cases c15 : a1 < (wrap64 (a0_0 - a0_1))
    ·rw [if_pos c15] at H
     have c15b0 : decide (a1 < (wrap64 (a0_0 - a0_1))) = true := decide_eq_true c15
     clear c15
     simp only [Option.some.injEq, Prod.mk.injEq] at H
     obtain ⟨rfl, rfl⟩ := H
     have hcz16_0 : wc.cell? ⟨gb171, 0, none⟩ = some (.int .i64 a0_0) := (blk_cell BK171.out 0).trans rfl
     have hcz16_1 : wc.cell? ⟨gb171, 1, none⟩ = some (.int .i64 a0_1) := (blk_cell BK171.out 1).trans rfl
     have hfz16_0 := blk_frozen BK171.out 0
     have hfz16_1 := blk_frozen BK171.out 1
     go_wp2
     go_ret2
     exact ⟨by first | rfl | (simp [errW_none, errW_some] <;> rfl) | (simp [*, errW_none, errW_some] <;> rfl), by repeat (first | (with_reducible first | exact HB.out | apply below_alloc | apply pw_below_drewN | apply below_drew1 | refine below_set ?_ GE171.out) | exact HB.out)⟩
    ·rw [if_neg c15] at H
     have c15b0 : decide (a1 < (wrap64 (a0_0 - a0_1))) = false := decide_eq_false c15
     clear c15
     by_cases c17 : a0_0 = 0
     ·rw [if_pos c17] at H
      exact absurd H (by simp)
     ·rw [if_neg c17] at H
      have c17b0 : (a0_0 == 0) = false := beq_eq_false_iff_ne.mpr c17
      have c17b1 : (a0_0 != 0) = true := bne_iff_ne.mpr c17
      obtain ⟨ji18, hji18⟩ : ∃ j_ : Int, (mx 0 (wrap64 ((wrap64 (a1 - (wrap64 (2 * (wrap64 (a0_0 - a0_1)))))) - (wrap64 ((wrap64 (Int.tdiv (wrap64 (a1 - (wrap64 (a0_0 - a0_1)))) a0_0)) * a0_0))))) = j_ := ⟨_, rfl⟩
      replace H : (some (wrap64 ((wrap64 ((wrap64 (Int.tdiv (wrap64 (a1 - (wrap64 (a0_0 - a0_1)))) a0_0)) * a0_1)) + (ji18)), 0)) = some (r1, r2) := by first | (rw [hji18] at H; exact H) | (simp only [hji18] at H ⊢; exact H)
      have hji18_ : (if 0 < (wrap64 ((wrap64 (a1 - (wrap64 (2 * (wrap64 (a0_0 - a0_1)))))) - (wrap64 ((wrap64 (Int.tdiv (wrap64 (a1 - (wrap64 (a0_0 - a0_1)))) a0_0)) * a0_0)))) then (wrap64 ((wrap64 (a1 - (wrap64 (2 * (wrap64 (a0_0 - a0_1)))))) - (wrap64 ((wrap64 (Int.tdiv (wrap64 (a1 - (wrap64 (a0_0 - a0_1)))) a0_0)) * a0_0)))) else 0) = ji18 := hji18
      simp only [Option.some.injEq, Prod.mk.injEq] at H
      obtain ⟨rfl, rfl⟩ := H
      have hcz19_0 : wc.cell? ⟨gb171, 0, none⟩ = some (.int .i64 a0_0) := (blk_cell BK171.out 0).trans rfl
      have hcz19_1 : wc.cell? ⟨gb171, 1, none⟩ = some (.int .i64 a0_1) := (blk_cell BK171.out 1).trans rfl
      have hfz19_0 := blk_frozen BK171.out 0
      have hfz19_1 := blk_frozen BK171.out 1
      go_wp2
      go_ret2
      exact ⟨by first | rfl | (simp [errW_none, errW_some] <;> rfl) | (simp only [← hji18]; first | rfl | (simp [errW_none, errW_some] <;> rfl)) | (simp [*, errW_none, errW_some] <;> rfl), by repeat (first | (with_reducible first | exact HB.out | apply below_alloc | apply pw_below_drewN | apply below_drew1 | refine below_set ?_ GE171.out) | exact HB.out)⟩
def sbf (p b t : Int) : Int := if t < p - b then 0 else (t - (p - b)) / p * b + max 0 (t - 2 * (p - b) - (t - (p - b)) / p * p)
theorem sbf_bd {p b t : Int} (h : okFace p b = true) (ht : 0 ≤ t) : 0 ≤ sbf p b t ∧ sbf p b t ≤ t := by
  rw [okFace_iff] at h
  unfold sbf
  split
  · omega
  · have hq0 : 0 ≤ (t - (p - b)) / p := Int.ediv_nonneg (by omega) (by omega)
    have hq1 : p * ((t - (p - b)) / p) + (t - (p - b)) % p = t - (p - b) := Int.mul_ediv_add_emod _ _
    have hr0 : 0 ≤ (t - (p - b)) % p := Int.emod_nonneg _ (by omega)
    have hr1 : (t - (p - b)) % p < p := Int.emod_lt_of_pos _ (by omega)
    have e1 : (t - (p - b)) / p * p = p * ((t - (p - b)) / p) := Int.mul_comm _ _
    have e2 : (t - (p - b)) / p * b = (t - (p - b)) / p * p - (t - (p - b)) / p * (p - b) := by rw [← Int.mul_sub]; congr 1; omega
    have e3 : 0 ≤ (t - (p - b)) / p * (p - b) := Int.mul_nonneg hq0 (by omega)
    have e4 : 0 ≤ (t - (p - b)) / p * b := Int.mul_nonneg hq0 (by omega)
    omega
theorem supply_Bound.ev (k : Nat) (p b t : Int) (h : okFace p b = true) (ht : 0 ≤ t ∧ t ≤ 2251799813685248) : supply_Bound.f (k + 1) p b t = some (sbf p b t, 0) := by
  have hb := sbf_bd h ht.1
  have hf := h
  rw [okFace_iff] at h
  unfold supply_Bound.f
  rw [supply_Right.ev, hf]
  simp only [Option.bind_some, if_true]
  rw [if_neg (by omega), decide_eq_false (by omega)]
  simp only [supply_Bound.j0]
  rw [if_neg (by simp), w64 (n := p - b) (by omega)]
  unfold sbf at hb ⊢
  by_cases h1 : t < p - b
  · rw [if_pos h1, if_pos h1]
  · rw [if_neg h1] at hb
    rw [if_neg h1, if_neg h1, if_neg (by omega), w64 (n := t - (p - b)) (by omega)]
    have hd : Int.tdiv (t - (p - b)) p = (t - (p - b)) / p := Int.tdiv_eq_ediv_of_nonneg (by omega)
    have hq0 : 0 ≤ (t - (p - b)) / p := Int.ediv_nonneg (by omega) (by omega)
    have hq1 : (t - (p - b)) / p ≤ t - (p - b) := Int.ediv_le_self _ (by omega)
    have m1 : 0 ≤ (t - (p - b)) / p * b := Int.mul_nonneg hq0 (by omega)
    have m2 : (t - (p - b)) / p * b ≤ t := by omega
    have m3 : 0 ≤ (t - (p - b)) / p * p := Int.mul_nonneg hq0 (by omega)
    have m4 : (t - (p - b)) / p * p ≤ t - (p - b) := Int.ediv_mul_le _ (by omega)
    rw [hd, w64 (n := (t - (p - b)) / p) (by omega), w64 (n := (t - (p - b)) / p * b) (by omega), w64 (n := (t - (p - b)) / p * p) (by omega), w64 (n := 2 * (p - b)) (by omega), w64 (n := t - 2 * (p - b)) (by omega), w64 (n := t - 2 * (p - b) - (t - (p - b)) / p * p) (by omega)]
    have e : mx 0 (t - 2 * (p - b) - (t - (p - b)) / p * p) = max 0 (t - 2 * (p - b) - (t - (p - b)) / p * p) := by unfold mx; omega
    rw [e, w64 (by omega)]
/-! ### verdict_fails_1: function 42 (by hand) -/
def failsT (l : List (S41)) (p b t : Int) : Bool := decide (sbf p b t < need l t)
def failsL (l : List (S41)) (p b : Int) (n : Nat) : List Int := ((List.range n).filter fun i : Nat => failsT l p b (i : Int)).map fun i : Nat => (i : Int)
theorem failsL_succ (l : List (S41)) (p b : Int) (n : Nat) : failsL l p b (n + 1) = failsL l p b n ++ (if failsT l p b (n : Int) = true then [(n : Int)] else []) := by
  unfold failsL
  rw [List.range_succ, List.filter_append, List.map_append]
  congr 1
  by_cases h : failsT l p b (n : Int) = true
  · rw [if_pos h]; simp [h]
  · rw [if_neg h]; simp [h]
theorem failsL_len (l : List (S41)) (p b : Int) (n : Nat) : (failsL l p b n).length ≤ n := by
  unfold failsL
  rw [List.length_map]
  have := List.length_filter_le (fun i : Nat => failsT l p b (i : Int)) (List.range n)
  simpa using this
theorem failsL_prefix (l : List (S41)) (p b : Int) (n m : Nat) (h : n ≤ m) : failsL l p b n <+: failsL l p b m := by
  induction m with
  | zero => have : n = 0 := by omega
            subst this; exact List.prefix_refl _
  | succ m ih =>
    by_cases e : n = m + 1
    · subst e; exact List.prefix_refl _
    · rw [failsL_succ]; exact (ih (by omega)).trans (List.prefix_append _ _)
section
attribute [local go_sem] Oper.semAt_some
set_option maxHeartbeats 4000000 in
set_option maxRecDepth 100000 in
theorem verdict_fails_1.stops (n : Nat) (hn : 1 ≤ n) (A0 : Option Addr) (c0 : Nat) (l : List (S41)) (p b fin : Int) (ge gl gf : Nat) (w : World)
    (hr0 : Kd.C k41 w A0 l.length l) (hc0 : l.length ≤ c0) (hok : okAll l = true) (hface : okFace p b = true) (he : 0 ≤ fin ∧ fin ≤ 3000)
    (hE : w.heap[ge]? = some (.cells #[.int .i64 fin] 3 (0, 0))) (hL : w.heap[gl]? = some (.cells #[.slice A0 l.length c0] 22 (0, 0))) (hF : w.heap[gf]? = some (.cells #[.int .i64 p, .int .i64 b] 24 (0, 0))) :
    SeqStopsK Fence.wide n Try.prog 42 #[.pointer (some ⟨ge, 0, none⟩), .pointer (some ⟨gl, 0, none⟩), .pointer (some ⟨gf, 0, none⟩)] (fun x : Int => #[Value.int .i64 x]) (Below w.heap.size)
      (fun xs => xs = failsL l p b (fin + 1).toNat) (fun pre => pre <+: failsL l p b (fin + 1).toNat) 3002 w := fun l' J Jx W hW hJ hJx hY h0 => by
  refine callsIn_of_wp Try.func42 rfl trivial ?_ rfl
  simp only [Try.ntmps42, List.size_toArray, List.length_cons, List.length_nil, Nat.reduceAdd, Nat.reduceSub, Array.replicate_succ, Array.replicate_zero, List.push_toArray, List.append_toArray, List.nil_append, List.cons_append]
  have HR := Aside0.mk hr0
  have HC := Aside0.mk hc0
  have HOK := Aside0.mk hok
  have HFc := Aside0.mk hface
  have HE := Aside0.mk hE
  have HL := Aside0.mk hL
  have HF := Aside0.mk hF
  have HJ0 := Aside0.mk h0
  have HW := Aside0.mk hW
  have HJab := Aside0.mk hJ
  have HYr := Aside0.mk hY
  clear hr0 hc0 hok hface hE hL hF h0 hW hJ hY
  obtain ⟨he0, he1⟩ := he
  gi_wp2
  gi_loopw [5] (fun i wr => ∃ k : Nat, (k : Int) ≤ fin + 1 ∧ i = .int .i64 k ∧ Aside0 (J (failsL l p b k) wr) ∧ Aside0 (Below w.heap.size w wr)) (fun i _ => (fin + 1 - intOf i).toNat)
  case atStart => exact ⟨0, by omega, rfl, ⟨HJ0.out⟩, ⟨HW.out⟩⟩
  case round =>
    obtain ⟨k, hk, rfl, HJs, HB⟩ := hrel
    have cE := blk_cell0 ((HB.out.block ge (blk_lt HE.out)).trans HE.out)
    by_cases hlt : (k : Int) ≤ fin
    · have d1 : decide ((k : Int) ≤ fin) = true := decide_eq_true hlt
      have cL := blk_cell0 ((HB.out.block gl (blk_lt HL.out)).trans HL.out)
      have cF0 := (blk_cell ((HB.out.block gf (blk_lt HF.out)).trans HF.out) 0).trans rfl
      have cF1 := (blk_cell ((HB.out.block gf (blk_lt HF.out)).trans HF.out) 1).trans rfl
      have HN := Aside0.mk (verdict_Need.ev 0 l k HOK.out ⟨by omega, by omega⟩)
      have HSb := Aside0.mk (supply_Bound.ev 0 p b k HFc.out ⟨by omega, by omega⟩)
      have HLen := Aside0.mk (failsL_len l p b k)
      gi_wp2_with fail
      refine ⟨trivial, (callsIn_wide.2 (verdict_Need.calls 3 A0 c0 l k (need l k) 0 _ (Kd.C_below HR.out HB.out) HC.out HN.out)).mono ?_⟩
      rintro e w2 ⟨rfl, hb2⟩
      have HB2 := Aside0.mk (below_weaken HB.out HB.out.size hb2)
      have HJ2 := Aside0.mk (HJab.out _ _ _ none HJs.out (grown_of_below hb2 none) (fun r e => by cases e))
      replace cF0 := pw_cell_below hb2 cF0
      replace cF1 := pw_cell_below hb2 cF1
      clear hb2 cE cL
      gi_wp2_with fail
      refine ⟨trivial, (callsIn_wide.2 (supply_Bound.calls 1 p b k (sbf p b k) 0 _ HSb.out)).mono ?_⟩
      rintro e w3 ⟨rfl, hb3⟩
      have HB3 := Aside0.mk (below_weaken HB2.out HB2.out.size hb3)
      have HJ3 := Aside0.mk (HJab.out _ _ _ none HJ2.out (grown_of_below hb3 none) (fun r e => by cases e))
      clear hb3 cF0 cF1
      by_cases hf : sbf p b k < need l k
      · have d2 : decide (sbf p b k < need l k) = true := decide_eq_true hf
        have es : failsL l p b (k + 1) = failsL l p b k ++ [(k : Int)] := by rw [failsL_succ, if_pos (show failsT l p b (k : Int) = true from d2)]
        have ES := Aside0.mk es
        obtain ⟨fn, tmps, assign, body, hy, hR⟩ := HYr.out (failsL l p b k) (k : Int) w3 HJ3.out (by have := HLen.out; omega)
        have HRr := Aside0.mk hR
        clear hR hf es
        gi_wp2_with fail
        refine HRr.out.mono ?_
        rintro e w4 (⟨rfl, hJ4, hb4⟩ | ⟨rfl, hx4⟩)
        · have HJ4 := Aside0.mk hJ4
          have HB4 := Aside0.mk (HB3.out.trans hb4)
          clear hJ4 hb4 HYr HJab HJ0
          gi_wp2_with fail
          go_roundw
          case rel => exact ⟨k + 1, by omega, by first | rfl | simp, ⟨by rw [ES.out]; exact HJ4.out⟩, HB4⟩
          case measure => simp [intOf]; omega
        · have HX4 := Aside0.mk hx4
          have HP := Aside0.mk (show failsL l p b k ++ [(k : Int)] <+: failsL l p b (fin + 1).toNat from by rw [← ES.out]; exact failsL_prefix _ _ _ _ _ (by omega))
          clear hx4 HYr HJab HJ0
          gi_wp2_with fail
          refine bodyPost_ret (results_none rfl _ _ _) rfl ?_
          exact ⟨⟨_, rfl⟩, .inr ⟨failsL l p b k ++ [(k : Int)], HP.out, HX4.out⟩⟩
      · have d2 : decide (sbf p b k < need l k) = false := decide_eq_false hf
        have ES := Aside0.mk (show failsL l p b (k + 1) = failsL l p b k from by rw [failsL_succ, if_neg (show ¬ failsT l p b (k : Int) = true from by unfold failsT; rw [d2]; simp)]; simp)
        clear hf HYr HJab HJ0
        gi_wp2_with fail
        refine ⟨fun _ h => (by cases h), ?_⟩
        gi_wp2_with fail
        go_roundw
        case rel => exact ⟨k + 1, by omega, by first | rfl | simp, ⟨by rw [ES.out]; exact HJ3.out⟩, HB3⟩
        case measure => simp [intOf]; omega
    · have d1 : decide ((k : Int) ≤ fin) = false := decide_eq_false hlt
      have HKe := Aside0.mk (show k = (fin + 1).toNat from by omega)
      clear HYr HJab HJ0
      gi_wp2_with fail
      go_end0
      exact ⟨⟨_, rfl⟩, .inl (by rw [← HKe.out]; exact HJs.out)⟩
end
/-! ### verdict_fails: function 29 (by hand) -/
set_option maxHeartbeats 1600000 in
theorem verdict_fails.calls (A0 : Option Addr) (n c0 : Nat) (p b fin : Int) (w : World) :
    Calls Try.prog 29 #[.slice A0 n c0, .agg #[.int .i64 p, .int .i64 b], .int .i64 fin] w fun e w' =>
      e = .returned (.func (.func 42) #[] #[.pointer (some ⟨w.heap.size + 2, 0, none⟩), .pointer (some ⟨w.heap.size, 0, none⟩), .pointer (some ⟨w.heap.size + 1, 0, none⟩)]) ∧
      ((w.alloc (.cells #[.slice A0 n c0] 22)).alloc (.cells #[.int .i64 p, .int .i64 b] 24)).alloc (.cells #[.int .i64 fin] 3) = w' := by
  have hu := Try.underlying24
  go_enter Try.func29, Try.ntmps29
  go_wp2_with fail
  go_ret
  exact ⟨rfl, rfl⟩
/-! ### verdict_First: function 16 (by hand) -/
def cycF (l : List (S41)) (p b : Int) : Int × Int × Int := if okAll l = true ∧ okFace p b = true then cycR (cycS l p (2 * p)) else (0, 0, 1)
theorem cycS_bd : ∀ {l : List (S41)} {c far c2 far2 : Int}, (∀ x ∈ l, okT x = true) → 1 ≤ c → 0 ≤ far → cycS l c far = some (c2, far2) → 1 ≤ c2 ∧ far ≤ far2 ∧ c2 + far2 ≤ 3000
  | [], c, far, c2, far2, _, hc, hf, h => by
    unfold cycS at h
    split at h
    · cases h
    · obtain ⟨rfl, rfl⟩ := Prod.mk.inj (Option.some.inj h); omega
  | x :: l, c, far, c2, far2, hok, hc, hf, h => by
    unfold cycS at h
    split at h
    · cases h
    · have hx := okTask_nums (hok x List.mem_cons_self)
      have := cycS_bd (fun y hy => hok y (List.mem_cons_of_mem _ hy)) (lcm_pos_ hc (by omega)) (by omega) h
      omega
theorem cycF_ok {l : List (S41)} {p b : Int} (h : (cycF l p b).2.2 = 0) : okAll l = true ∧ okFace p b = true ∧ ∃ c far, cycS l p (2 * p) = some (c, far) ∧ cycF l p b = (c, c + far, 0) ∧ 1 ≤ c ∧ 2 * p ≤ far ∧ c + far ≤ 3000 := by
  unfold cycF at h ⊢
  by_cases hc : okAll l = true ∧ okFace p b = true
  · rw [if_pos hc] at h ⊢
    obtain ⟨h1, h2⟩ := hc
    have hp := okFace_iff.mp h2
    cases e : cycS l p (2 * p) with
    | none => rw [e] at h; simp [cycR] at h
    | some q =>
      obtain ⟨c, far⟩ := q
      have := cycS_bd (okAll_parts h1).1 (by omega) (by omega) e
      exact ⟨h1, h2, c, far, rfl, rfl, this⟩
  · rw [if_neg hc] at h; simp at h
def headR : List Int → Int × Bool × Int | [] => (0, false, 0) | x :: _ => (x, true, 0)
def firstR (l : List (S41)) (p b : Int) : Int × Bool × Int := if (cycF l p b).2.2 = 0 then headR (failsL l p b ((cycF l p b).2.1 + 1).toNat) else (0, false, (cycF l p b).2.2)
def verdict_First.f (l0 : List (S41)) (a1_0 a1_1 : Int) : Option (Int × Bool × Int) := if (l0.length : Int) ≤ 1000000 then some (firstR l0 a1_0 a1_1) else none
section
attribute [local go_sem] Oper.semAt_some
set_option maxHeartbeats 8000000 in
set_option maxRecDepth 100000 in
theorem verdict_First.calls (A0 : Option Addr) (c0 : Nat) (l0 : List (S41)) (a1_0 a1_1 : Int) (r1 : Int) (r2 : Bool) (r3 : Int) (w : World) (hr0 : Kd.C k41 w A0 l0.length l0) (hc0 : l0.length ≤ c0) (h : verdict_First.f l0 a1_0 a1_1 = some (r1, r2, r3)) :
    Calls Try.prog 16 #[.slice A0 l0.length c0, .agg #[.int .i64 a1_0, .int .i64 a1_1]] w fun e w' => e = .returned (.tuple #[.int .i64 r1, .bool r2, .int .i64 r3]) ∧ Below w.heap.size w w' := by
  have hu := Try.underlying24
  unfold verdict_First.f at h
  split at h
  case isFalse => cases h
  case isTrue hlen =>
  have hfin := Option.some.inj h
  clear h
  obtain ⟨K, hK⟩ := (verdict_Cycle.ev l0 a1_0 a1_1 hlen).rounds
  obtain ⟨cy, en, er, hcy⟩ : ∃ cy en er, cycF l0 a1_0 a1_1 = (cy, en, er) := ⟨_, _, _, rfl⟩
  rw [show (if okAll l0 = true ∧ okFace a1_0 a1_1 = true then cycR (cycS l0 a1_0 (2 * a1_0)) else (0, 0, 1)) = cycF l0 a1_0 a1_1 from rfl, hcy] at hK
  have HK := Aside0.mk hK
  have HR0 := Aside0.mk hr0
  have HC0 := Aside0.mk hc0
  have HFIN := Aside0.mk hfin
  have HCY := Aside0.mk hcy
  clear hK hr0 hc0 hfin hcy
  refine (callsIn_wide (n := 5)).1 ?_
  refine callsIn_of_wp_marks Try.func16 rfl trivial ?_ rfl
  simp only [Try.ntmps16, List.size_toArray, List.length_cons, List.length_nil, Nat.reduceAdd, Nat.reduceSub, Array.replicate_succ, Array.replicate_zero, List.push_toArray, List.append_toArray, List.nil_append, List.cons_append]
  gi_wp2_with fail
  obtain ⟨W, hW⟩ : ∃ W : World, W = (((w.alloc (.cells #[.int .i64 a1_0, .int .i64 a1_1] 24)).alloc (.cells #[.int .i64 0] 3)).alloc (.cells #[.bool false] 4)).alloc (.cells #[.int .i64 0] 27) := ⟨_, rfl⟩
  rw [← hW]
  have hb0 : Below w.heap.size w W := by rw [hW]; exact below_alloc (below_alloc (below_alloc (below_alloc (Below.refl _ _) _) _) _) _
  have hF := show W.heap[w.heap.size]? = some (.cells #[.int .i64 a1_0, .int .i64 a1_1] 24 (0, 0)) from by rw [hW]; exact blk_alloc (blk_alloc (blk_alloc (blk_new _ _) _) _) _
  have h1 := show W.heap[w.heap.size + 1]? = some (.cells #[.int .i64 0] 3 (0, 0)) from by rw [hW]; exact blk_alloc (blk_alloc (by simpa using blk_new (w.alloc (.cells #[.int .i64 a1_0, .int .i64 a1_1] 24)) (.cells #[.int .i64 0] 3)) _) _
  have h2 := show W.heap[w.heap.size + 2]? = some (.cells #[.bool false] 4 (0, 0)) from by rw [hW]; exact blk_alloc (by simpa using blk_new ((w.alloc (.cells #[.int .i64 a1_0, .int .i64 a1_1] 24)).alloc (.cells #[.int .i64 0] 3)) (.cells #[.bool false] 4)) _
  have h3 := show W.heap[w.heap.size + 3]? = some (.cells #[.int .i64 0] 27 (0, 0)) from by rw [hW]; simpa using blk_new (((w.alloc (.cells #[.int .i64 a1_0, .int .i64 a1_1] 24)).alloc (.cells #[.int .i64 0] 3)).alloc (.cells #[.bool false] 4)) (.cells #[.int .i64 0] 27)
  clear hW
  refine ⟨trivial, (callsIn_wide.2 (verdict_Cycle.calls K A0 c0 l0 a1_0 a1_1 cy en er _ (Kd.C_below HR0.out hb0) HC0.out HK.out)).mono ?_⟩
  rintro e W1 ⟨rfl, hb1⟩
  have HB1 := Aside0.mk (below_step hb0 hb1)
  have HF1 := Aside0.mk (blk_below hF hb1)
  have H1 := Aside0.mk (blk_below h1 hb1)
  have H2 := Aside0.mk (blk_below h2 hb1)
  have H3 := Aside0.mk (blk_below h3 hb1)
  clear hb0 hb1 hF h1 h2 h3
  have c1 := blk_cell0 H1.out
  have c2 := blk_cell0 H2.out
  have c3 := blk_cell0 H3.out
  have f1 := blk_frozen H1.out 0
  have f2 := blk_frozen H2.out 0
  have f3 := blk_frozen H3.out 0
  by_cases her : er = 0
  · subst her
    obtain ⟨hok, hface, cc, far, hcs, hcc, hb1, hb2, hb3⟩ := cycF_ok (l := l0) (p := a1_0) (b := a1_1) (by rw [HCY.out])
    have hp := okFace_iff.mp hface
    have he0 : 0 ≤ en := by have := HCY.out; rw [hcc] at this; simp at this; omega
    have he1 : en ≤ 3000 := by have := HCY.out; rw [hcc] at this; simp at this; omega
    have e1 : firstR l0 a1_0 a1_1 = headR (failsL l0 a1_0 a1_1 (en + 1).toNat) := by unfold firstR; rw [HCY.out, if_pos rfl]
    rw [HFIN.out] at e1
    have E1 := Aside0.mk e1
    have HOK := Aside0.mk hok
    have HFACE := Aside0.mk hface
    have cf0 := (blk_cell HF1.out 0).trans rfl
    have cf1 := (blk_cell HF1.out 1).trans rfl
    have g3 : w.heap.size + 1 + 1 + 1 < W1.heap.size := blk_lt H3.out
    clear hok hface hcs hcc hb1 hb2 hb3 e1
    gi_wp2_with fail
    refine ⟨trivial, (callsIn_wide.2 (verdict_fails.calls _ _ _ _ _ _ _)).mono ?_⟩
    rintro e W2 ⟨rfl, hw2⟩
    have HW2 := Aside0.mk hw2
    have hsz : W2.heap.size = W1.heap.size + 3 := by rw [← hw2]; simp
    have k1 := blk_cell0 (show W2.heap[w.heap.size + 1]? = some (.cells #[.int .i64 0] 3 (0, 0)) from by rw [← hw2]; exact blk_alloc (blk_alloc (blk_alloc H1.out _) _) _)
    clear hw2
    gi_wp2_with fail
    have HE2 := show W2.heap[W1.heap.size + 2]? = some (.cells #[.int .i64 en] 3 (0, 0)) from by rw [← HW2.out]; simpa using blk_new ((W1.alloc (.cells #[.slice A0 l0.length c0] 22)).alloc (.cells #[.int .i64 a1_0, .int .i64 a1_1] 24)) (.cells #[.int .i64 en] 3)
    have HL2 := show W2.heap[W1.heap.size]? = some (.cells #[.slice A0 l0.length c0] 22 (0, 0)) from by rw [← HW2.out]; exact blk_alloc (blk_alloc (blk_new _ _) _) _
    have HF2 := show W2.heap[W1.heap.size + 1]? = some (.cells #[.int .i64 a1_0, .int .i64 a1_1] 24 (0, 0)) from by rw [← HW2.out]; exact blk_alloc (by simpa using blk_new (W1.alloc (.cells #[.slice A0 l0.length c0] 22)) (.cells #[.int .i64 a1_0, .int .i64 a1_1] 24)) _
    have hB2 : Below w.heap.size w W2 := by rw [← HW2.out]; exact below_alloc (below_alloc (below_alloc HB1.out _) _) _
    have m1 := show W2.heap[w.heap.size + 1]? = some (.cells #[.int .i64 0] 3 (0, 0)) from by rw [← HW2.out]; exact blk_alloc (blk_alloc (blk_alloc H1.out _) _) _
    have m2 := show W2.heap[w.heap.size + 1 + 1]? = some (.cells #[.bool false] 4 (0, 0)) from by rw [← HW2.out]; exact blk_alloc (blk_alloc (blk_alloc H2.out _) _) _
    have m3 := show W2.heap[w.heap.size + 1 + 1 + 1]? = some (.cells #[.int .i64 0] 27 (0, 0)) from by rw [← HW2.out]; exact blk_alloc (blk_alloc (blk_alloc H3.out _) _) _
    have hstops := verdict_fails_1.stops 4 (by omega) A0 c0 l0 a1_0 a1_1 en (W1.heap.size + 2) W1.heap.size (W1.heap.size + 1) W2 (Kd.C_below HR0.out hB2) HC0.out HOK.out HFACE.out ⟨he0, he1⟩ HE2 HL2 HF2
    have gB : w.heap.size ≤ W2.heap.size := hB2.size
    have k1' := blk_cell0 m1
    have k2' := blk_cell0 m2
    have k3' := blk_cell0 m3
    have f1' := blk_frozen m1 0
    have f2' := blk_frozen m2 0
    have f3' := blk_frozen m3 0
    clear k1 c1 c2 c3 f1 f2 f3 cf0 cf1 HE2 HL2 HF2 m1 m2 m3 hsz
    refine wpIn_rangeFunc_ownF rfl (show 1 ≤ 5 by omega) (gf := 42) (lb := #[.pointer (some ⟨W1.heap.size + 2, 0, none⟩), .pointer (some ⟨W1.heap.size, 0, none⟩), .pointer (some ⟨W1.heap.size + 1, 0, none⟩)]) rfl trivial (enters_of Try.func42 (by kernel_rfl) rfl)
      hstops (fun h k => h.trans k) (belowK_b (Nat.le_refl _)) (Below.refl _ _) (fun _ => rfl)
      (fun pre W => (pre = [] ∧ (W.cell? ⟨w.heap.size + 1, 0, none⟩ = some (.int .i64 0) ∧ W.frozen? ⟨w.heap.size + 1, 0, none⟩ = false) ∧ (W.cell? ⟨w.heap.size + 1 + 1, 0, none⟩ = some (.bool false) ∧ W.frozen? ⟨w.heap.size + 1 + 1, 0, none⟩ = false) ∧ (W.cell? ⟨w.heap.size + 1 + 1 + 1, 0, none⟩ = some (.int .i64 0) ∧ W.frozen? ⟨w.heap.size + 1 + 1 + 1, 0, none⟩ = false)) ∧ Below w.heap.size w W)
      (fun c pre W => (c = .ret ∧ ∃ x : Int, pre = [x] ∧ W.cell? ⟨w.heap.size + 1, 0, none⟩ = some (.int .i64 x) ∧ W.cell? ⟨w.heap.size + 1 + 1, 0, none⟩ = some (.bool true) ∧ W.cell? ⟨w.heap.size + 1 + 1 + 1, 0, none⟩ = some (.int .i64 0)) ∧ Below w.heap.size w W)
      (OwnFrom.and (Own.from (fun s A B row hs hg hr => ⟨hs.1, ⟨cell_kept hs.2.1.1 hg hr, (frozen_kept hs.2.1.1 hg hr).trans hs.2.1.2⟩, ⟨cell_kept hs.2.2.1.1 hg hr, (frozen_kept hs.2.2.1.1 hg hr).trans hs.2.2.1.2⟩, ⟨cell_kept hs.2.2.2.1 hg hr, (frozen_kept hs.2.2.2.1 hg hr).trans hs.2.2.2.2⟩⟩) _) (ownFrom_below (Nat.le_refl _) gB))
      (fun c => OwnFrom.and (Own.from (fun s A B row hs hg hr => by obtain ⟨hc, x, e1, e2, e3, e4⟩ := hs; exact ⟨hc, x, e1, cell_kept e2 hg hr, cell_kept e3 hg hr, cell_kept e4 hg hr⟩) _) (ownFrom_below (Nat.le_refl _) gB))
      ⟨⟨rfl, ⟨k1', f1'⟩, ⟨k2', f2'⟩, ⟨k3', f3'⟩⟩, hB2⟩
      (fun x => { tmps := #[Value.slice A0 l0.length c0, Value.agg #[Value.int IntKind.i64 a1_0, Value.int IntKind.i64 a1_1], undef, Value.pointer (some { block := w.heap.size, off := 0 }), Value.pointer (some { block := w.heap.size + 1, off := 0 }), Value.pointer (some { block := w.heap.size + 1 + 1, off := 0 }), Value.pointer (some { block := w.heap.size + 1 + 1 + 1, off := 0 }), Value.int IntKind.i64 cy, Value.int IntKind.i64 en, Value.int IntKind.i64 0, .int .i64 x,
          Value.tuple #[Value.int IntKind.i64 cy, Value.int IntKind.i64 en, Value.int IntKind.i64 0], Value.slice A0 l0.length c0, Value.agg #[Value.int IntKind.i64 a1_0, Value.int IntKind.i64 a1_1], Value.tuple #[Value.int IntKind.i64 cy, Value.int IntKind.i64 en, Value.int IntKind.i64 0], Value.int IntKind.i64 cy, Value.int IntKind.i64 en, Value.int IntKind.i64 0, Value.int IntKind.i64 0, Value.bool false, undef, Value.slice A0 l0.length c0, Value.agg #[Value.int IntKind.i64 a1_0, Value.int IntKind.i64 a1_1], Value.int IntKind.i64 en,
          Value.func (Fn.func 42) #[] #[Value.pointer (some { block := W1.heap.size + 2, off := 0 }), Value.pointer (some { block := W1.heap.size, off := 0 }), Value.pointer (some { block := W1.heap.size + 1, off := 0 })], .int .i64 x, undef], defers := [] }) ?assign ?body ?done ?stop
    case assign =>
      intro l x W K hK
      gi_wp2
      exact hK
    case body =>
      rintro l pre x W ⟨⟨rfl, ⟨g1, gf1⟩, ⟨g2, gf2⟩, ⟨g3, gf3⟩⟩, hB⟩ _
      gi_wp2
      exact ⟨((KeepsOthers.setCell _ _ _).trans (KeepsOthers.setCell _ _ _)).trans (KeepsOthers.setCell _ _ _),
        ⟨rfl, x, rfl, cell_set_ne (cell_set_ne (cell_set_same g1) (show w.heap.size + 1 ≠ w.heap.size + 1 + 1 by omega)) (show w.heap.size + 1 ≠ w.heap.size + 1 + 1 + 1 by omega),
          cell_set_ne (cell_set_same (cell_set_ne g2 (show w.heap.size + 1 + 1 ≠ w.heap.size + 1 by omega))) (show w.heap.size + 1 + 1 ≠ w.heap.size + 1 + 1 + 1 by omega),
          cell_set_same (cell_set_ne (cell_set_ne g3 (show w.heap.size + 1 + 1 + 1 ≠ w.heap.size + 1 by omega)) (show w.heap.size + 1 + 1 + 1 ≠ w.heap.size + 1 + 1 by omega))⟩,
        below_set (below_set (below_set hB (by omega)) (by omega)) (by omega)⟩
    case done =>
      rintro D ys W hD hys ⟨⟨rfl, ⟨g1, gf1⟩, ⟨g2, gf2⟩, ⟨g3, gf3⟩⟩, hB⟩ hK
      gi_wp2
      have hK' := (((KeepsOthers.setCell W ⟨w.heap.size + 1, 0, none⟩ (.int .i64 0)).trans (KeepsOthers.setCell _ ⟨w.heap.size + 1 + 1, 0, none⟩ (.bool false))).trans (KeepsOthers.setCell _ ⟨w.heap.size + 1 + 1 + 1, 0, none⟩ (.int .i64 0))).same D _ hK rfl
      refine ⟨by simp, .inl ⟨_, _, rfl, run_takeDeferred hK', ?_⟩⟩
      have q1 := cell_kept (cell_set_ne (v := .int .i64 0) (cell_set_ne (v := .bool false) (cell_set_same (v := .int .i64 0) g1) (show w.heap.size + 1 ≠ w.heap.size + 1 + 1 by omega)) (show w.heap.size + 1 ≠ w.heap.size + 1 + 1 + 1 by omega)) (grownBy_putObj' _ D (.deferred none)) (fun r e => by cases e; exact ⟨_, hK', rfl⟩)
      have q2 := cell_kept (cell_set_ne (v := .int .i64 0) (cell_set_same (v := .bool false) (cell_set_ne (v := .int .i64 0) g2 (show w.heap.size + 1 + 1 ≠ w.heap.size + 1 by omega))) (show w.heap.size + 1 + 1 ≠ w.heap.size + 1 + 1 + 1 by omega)) (grownBy_putObj' _ D (.deferred none)) (fun r e => by cases e; exact ⟨_, hK', rfl⟩)
      have q3 := cell_kept (cell_set_same (v := .int .i64 0) (cell_set_ne (v := .bool false) (cell_set_ne (v := .int .i64 0) g3 (show w.heap.size + 1 + 1 + 1 ≠ w.heap.size + 1 by omega)) (show w.heap.size + 1 + 1 + 1 ≠ w.heap.size + 1 + 1 by omega))) (grownBy_putObj' _ D (.deferred none)) (fun r e => by cases e; exact ⟨_, hK', rfl⟩)
      have hh := E1.out
      rw [← hys] at hh
      obtain ⟨rfl, rfl, rfl⟩ : r1 = 0 ∧ r2 = false ∧ r3 = 0 := by simpa [headR] using hh
      refine ⟨.tuple #[.int .i64 0, .bool false, .int .i64 0], ?_, rfl, (below_set (below_set (below_set hB (by omega)) (by omega)) (by omega)).trans (belowK_b (w := w) (Nat.le_refl _) _ D _ _ (by omega) hK' rfl rfl)⟩
      simp only [Nat.add_assoc, Nat.reduceAdd] at q1 q2 q3 ⊢
      simp [results, Try.f16, go_sem, q1, q2, q3]
    case stop =>
      rintro D c pre W hD hpre ⟨⟨rfl, x, rfl, g1, g2, g3⟩, hB⟩ hK
      gi_wp2
      refine ⟨by simp, .inl ⟨_, _, rfl, run_takeDeferred hK, ?_⟩⟩
      have q1 := cell_kept g1 (grownBy_putObj' _ D (.deferred none)) (fun r e => by cases e; exact ⟨_, hK, rfl⟩)
      have q2 := cell_kept g2 (grownBy_putObj' _ D (.deferred none)) (fun r e => by cases e; exact ⟨_, hK, rfl⟩)
      have q3 := cell_kept g3 (grownBy_putObj' _ D (.deferred none)) (fun r e => by cases e; exact ⟨_, hK, rfl⟩)
      have hh := E1.out
      obtain ⟨rest, hrest⟩ := hpre
      rw [← hrest] at hh
      obtain ⟨rfl, rfl, rfl⟩ : r1 = x ∧ r2 = true ∧ r3 = 0 := by simpa [headR] using hh
      refine ⟨.tuple #[.int .i64 r1, .bool true, .int .i64 0], ?_, rfl, hB.trans (belowK_b (w := w) (Nat.le_refl _) W D _ _ (by omega) hK rfl rfl)⟩
      simp only [Nat.add_assoc, Nat.reduceAdd] at q1 q2 q3 ⊢
      simp [results, Try.f16, go_sem, q1, q2, q3]
  · have d1 : (er != 0) = true := bne_iff_ne.mpr her
    have e1 : firstR l0 a1_0 a1_1 = (0, false, er) := by unfold firstR; rw [HCY.out, if_neg her]
    rw [HFIN.out] at e1
    obtain ⟨rfl, rfl, rfl⟩ : r1 = 0 ∧ r2 = false ∧ r3 = er := by simpa using e1
    clear her e1
    gi_wp2_with fail
    have hfr := (show w.heap.size ≤ w.heap.size + 1 + 1 + 1 from by omega)
    refine ⟨.tuple #[.int .i64 0, .bool false, .int .i64 r3], ?_, rfl, below_set (below_set (below_set HB1.out (by omega)) (by omega)) (by omega)⟩
    have q1 := blk_cell0 (blk_far (p := ⟨w.heap.size + 1 + 1 + 1, 0, none⟩) (blk_far (p := ⟨w.heap.size + 1 + 1, 0, none⟩) (blk_put H1.out 0 (.int .i64 0) rfl) (show w.heap.size + 1 ≠ w.heap.size + 1 + 1 by omega) (.bool false)) (show w.heap.size + 1 ≠ w.heap.size + 1 + 1 + 1 by omega) (.int .i64 r3))
    have q2 := blk_cell0 (blk_far (p := ⟨w.heap.size + 1 + 1 + 1, 0, none⟩) (blk_put (blk_far (p := ⟨w.heap.size + 1, 0, none⟩) H2.out (show w.heap.size + 2 ≠ w.heap.size + 1 by omega) (.int .i64 0)) 0 (.bool false) rfl) (show w.heap.size + 2 ≠ w.heap.size + 1 + 1 + 1 by omega) (.int .i64 r3))
    have q3 := blk_cell0 (blk_put (blk_far (p := ⟨w.heap.size + 1 + 1, 0, none⟩) (blk_far (p := ⟨w.heap.size + 1, 0, none⟩) H3.out (show w.heap.size + 3 ≠ w.heap.size + 1 by omega) (.int .i64 0)) (show w.heap.size + 3 ≠ w.heap.size + 1 + 1 by omega) (.bool false)) 0 (.int .i64 r3) rfl)
    simp only [Nat.add_assoc, Nat.reduceAdd] at q1 q2 q3 ⊢
    simp [results, Try.f16, go_sem, q1, q2, q3]
end
/-! ### verdict_Fits: function 12 -/
def verdict_Fits.l0 : Nat → List (S41) → Int → Int → List (S41) → Int → Int → Int → Int → Option (Bool × Int)
 | 0, _, _, _, _, _, _, _, _ => none
 | k + 1, x0, x6, x9, x25, x26, x27, x174000, x174001 => if x27 < x26 then (if 0 ≤ x27 then (if x27 < (x25.length : Int) then (if ((rd_T41 x25 x27).f2) = 0 then (none) else (verdict_Fits.l0 k x0 x6 (wrap64 (x9 + (wrap64 ((wrap64 (Int.tdiv x6 ((rd_T41 x25 x27).f2))) * ((rd_T41 x25 x27).f0))))) x25 x26 (wrap64 (x27 + 1)) x174000 x174001)) else (none)) else (none)) else (if x174000 = 0 then (none) else (if x9 > (wrap64 ((wrap64 (Int.tdiv x6 x174000)) * x174001)) then (some (false, 0)) else ((verdict_First.f x0 x174000 x174001).bind fun bt179 => (some (!bt179.2.1, 0)))))
def verdict_Fits.f (k : Nat) (l0 : List (S41)) (a1_0 : Int) (a1_1 : Int) : Option (Bool × Int) := (verdict_Cycle.f k l0 a1_0 a1_1).bind fun bt174 => (if bt174.2.2 = 0 then (verdict_Fits.l0 k l0 bt174.1 0 l0 (l0.length : Int) 0 a1_0 a1_1) else (some (false, bt174.2.2)))
set_option maxHeartbeats 8000000 in
set_option maxRecDepth 100000 in
theorem verdict_Fits.calls (k : Nat) (A0 : Option Addr) (c0 : Nat) (l0 : List (S41)) (a1_0 : Int) (a1_1 : Int) (r1 : Bool) (r2 : Int) (w : World) (hr0 : Kd.C k41 w A0 l0.length l0) (hc0 : l0.length ≤ c0) (h : verdict_Fits.f k l0 a1_0 a1_1 = some (r1, r2)) :
  Calls Try.prog 12 #[.slice A0 l0.length c0, .agg #[.int .i64 a1_0, .int .i64 a1_1]] w fun e w' => e = .returned (.tuple #[.bool r1, .int .i64 r2]) ∧ Below w.heap.size w w' := by
 have hu24 := Try.underlying24
 have hu41 := Try.underlying41
 have HR0 := Aside0.mk hr0
 have HC0 := Aside0.mk hc0
 clear hr0 hc0
 have HB := Aside0.mk (Below.refl w.heap.size w)
 have H : ((verdict_Cycle.f k l0 a1_0 a1_1).bind fun bt174 => (if bt174.2.2 = 0 then (verdict_Fits.l0 k l0 bt174.1 0 l0 (l0.length : Int) 0 a1_0 a1_1) else (some (false, bt174.2.2)))) = some (r1, r2) := h
 clear h
 replace H := Option.bind_eq_some_iff.mp H
 obtain ⟨⟨t174, t175, t176⟩, A30, H⟩ := H
 replace H : (if t176 = 0 then (verdict_Fits.l0 k l0 t174 0 l0 (l0.length : Int) 0 a1_0 a1_1) else (some (false, t176))) = some (r1, r2) := H
 have A3 := Aside0.mk A30
 clear A30
 by_cases c4 : t176 = 0
 ·rw [if_pos c4] at H
  have c4b0 : (t176 == 0) = true := beq_iff_eq.mpr c4
  have c4b1 : (t176 != 0) = false := bne_eq_false_iff_eq.mpr c4
  clear c4
  have H' := Aside0.mk H
  clear H
  go_enter Try.func12, Try.ntmps12
  go_wp2_with (first | ((with_reducible refine gate_dst (N := 3) rfl ?_); refine box_event ?hg (N := 3) ?hd (cs := #[.int .i64 a1_0, .int .i64 a1_1]) (t := 24) ?hr ?_; (case hd => rfl); (case hg => rfl); (case hr => first | (go_simp; done) | (go_simp; rfl)); intro gb173 hg w5 hbox hb; have n0_ := Aside0.mk (below_step (by repeat (first | (with_reducible first | exact HB.out | apply below_alloc | apply pw_below_drewN | apply below_drew1) | exact HB.out)) hb); have n1_ := Aside0.mk (hbox); have n2_ := Aside0.mk ((by rw [hg]; exact (below_size (by repeat (first | (with_reducible first | exact HB.out | apply below_alloc | apply pw_below_drewN | apply below_drew1) | exact HB.out))) : w.heap.size ≤ gb173)); have n3_ := Aside0.mk ((by rw [hg]; exact (below_size (by repeat (first | (with_reducible first | exact HB.out | apply below_alloc | apply pw_below_drewN | apply below_drew1) | exact HB.out))) : w.heap.size ≤ gb173)); clear HB; have HB := n0_; have BK173 := n1_; have GW173 := n2_; have GE173 := n3_; clear n0_ n1_ n2_ n3_; clear hb hbox hg; have hcz6_0 : w5.cell? ⟨gb173, 0, none⟩ = some (.int .i64 a1_0) := (blk_cell BK173.out 0).trans rfl; have hcz6_1 : w5.cell? ⟨gb173, 1, none⟩ = some (.int .i64 a1_1) := (blk_cell BK173.out 1).trans rfl; have hfz6_0 := blk_frozen BK173.out 0; have hfz6_1 := blk_frozen BK173.out 1) | (go_at_call 24; (with_reducible refine (verdict_Cycle.calls k _ _ l0 a1_0 a1_1 t174 t175 t176 _ ?side1 ?side2 A3.out).mono ?_); (case side1 => repeat (first | exact (Kd.C_below HR0.out HB.out) | (with_reducible refine Kd.C_alloc ?_ _) | (with_reducible refine Kd.C_drewN ?_ _) | (with_reducible refine Kd.C_drew ?_))); (case side2 => exact HC0.out); rintro e w7 ⟨rfl, hb⟩; have n0_ := Aside0.mk (blk_below (g := gb173) (o := .cells #[.int .i64 a1_0, .int .i64 a1_1] 24 (0, 0)) (by (with_reducible repeat (first | refine blk_drewN ?_ _ | refine blk_drew ?_ | refine blk_alloc ?_ _)); exact BK173.out) hb); have n1_ := Aside0.mk (below_step (by repeat (first | (with_reducible first | exact HB.out | apply below_alloc | apply pw_below_drewN | apply below_drew1 | refine below_set ?_ GE173.out) | exact HB.out)) hb); clear BK173; clear HB; have BK173 := n0_; have HB := n1_; clear n0_ n1_; (try clear hb); (try clear hb2); (try clear hk); (try clear hi)))
  repeat (go_quiet (first | ((with_reducible refine gate_dst (N := 3) rfl ?_); refine box_event ?hg (N := 3) ?hd (cs := #[.int .i64 a1_0, .int .i64 a1_1]) (t := 24) ?hr ?_; (case hd => rfl); (case hg => rfl); (case hr => first | (go_simp; done) | (go_simp; rfl)); intro gb173 hg w5 hbox hb; have n0_ := Aside0.mk (below_step (by repeat (first | (with_reducible first | exact HB.out | apply below_alloc | apply pw_below_drewN | apply below_drew1) | exact HB.out)) hb); have n1_ := Aside0.mk (hbox); have n2_ := Aside0.mk ((by rw [hg]; exact (below_size (by repeat (first | (with_reducible first | exact HB.out | apply below_alloc | apply pw_below_drewN | apply below_drew1) | exact HB.out))) : w.heap.size ≤ gb173)); have n3_ := Aside0.mk ((by rw [hg]; exact (below_size (by repeat (first | (with_reducible first | exact HB.out | apply below_alloc | apply pw_below_drewN | apply below_drew1) | exact HB.out))) : w.heap.size ≤ gb173)); clear HB; have HB := n0_; have BK173 := n1_; have GW173 := n2_; have GE173 := n3_; clear n0_ n1_ n2_ n3_; clear hb hbox hg; have hcz6_0 : w5.cell? ⟨gb173, 0, none⟩ = some (.int .i64 a1_0) := (blk_cell BK173.out 0).trans rfl; have hcz6_1 : w5.cell? ⟨gb173, 1, none⟩ = some (.int .i64 a1_1) := (blk_cell BK173.out 1).trans rfl; have hfz6_0 := blk_frozen BK173.out 0; have hfz6_1 := blk_frozen BK173.out 1) | (go_at_call 24; (with_reducible refine (verdict_Cycle.calls k _ _ l0 a1_0 a1_1 t174 t175 t176 _ ?side1 ?side2 A3.out).mono ?_); (case side1 => repeat (first | exact (Kd.C_below HR0.out HB.out) | (with_reducible refine Kd.C_alloc ?_ _) | (with_reducible refine Kd.C_drewN ?_ _) | (with_reducible refine Kd.C_drew ?_))); (case side2 => exact HC0.out); rintro e w7 ⟨rfl, hb⟩; have n0_ := Aside0.mk (blk_below (g := gb173) (o := .cells #[.int .i64 a1_0, .int .i64 a1_1] 24 (0, 0)) (by (with_reducible repeat (first | refine blk_drewN ?_ _ | refine blk_drew ?_ | refine blk_alloc ?_ _)); exact BK173.out) hb); have n1_ := Aside0.mk (below_step (by repeat (first | (with_reducible first | exact HB.out | apply below_alloc | apply pw_below_drewN | apply below_drew1 | refine below_set ?_ GE173.out) | exact HB.out)) hb); clear BK173; clear HB; have BK173 := n0_; have HB := n1_; clear n0_ n1_; (try clear hb); (try clear hb2); (try clear hk); (try clear hi))); try go_wp2_with (first | ((with_reducible refine gate_dst (N := 3) rfl ?_); refine box_event ?hg (N := 3) ?hd (cs := #[.int .i64 a1_0, .int .i64 a1_1]) (t := 24) ?hr ?_; (case hd => rfl); (case hg => rfl); (case hr => first | (go_simp; done) | (go_simp; rfl)); intro gb173 hg w5 hbox hb; have n0_ := Aside0.mk (below_step (by repeat (first | (with_reducible first | exact HB.out | apply below_alloc | apply pw_below_drewN | apply below_drew1) | exact HB.out)) hb); have n1_ := Aside0.mk (hbox); have n2_ := Aside0.mk ((by rw [hg]; exact (below_size (by repeat (first | (with_reducible first | exact HB.out | apply below_alloc | apply pw_below_drewN | apply below_drew1) | exact HB.out))) : w.heap.size ≤ gb173)); have n3_ := Aside0.mk ((by rw [hg]; exact (below_size (by repeat (first | (with_reducible first | exact HB.out | apply below_alloc | apply pw_below_drewN | apply below_drew1) | exact HB.out))) : w.heap.size ≤ gb173)); clear HB; have HB := n0_; have BK173 := n1_; have GW173 := n2_; have GE173 := n3_; clear n0_ n1_ n2_ n3_; clear hb hbox hg; have hcz6_0 : w5.cell? ⟨gb173, 0, none⟩ = some (.int .i64 a1_0) := (blk_cell BK173.out 0).trans rfl; have hcz6_1 : w5.cell? ⟨gb173, 1, none⟩ = some (.int .i64 a1_1) := (blk_cell BK173.out 1).trans rfl; have hfz6_0 := blk_frozen BK173.out 0; have hfz6_1 := blk_frozen BK173.out 1) | (go_at_call 24; (with_reducible refine (verdict_Cycle.calls k _ _ l0 a1_0 a1_1 t174 t175 t176 _ ?side1 ?side2 A3.out).mono ?_); (case side1 => repeat (first | exact (Kd.C_below HR0.out HB.out) | (with_reducible refine Kd.C_alloc ?_ _) | (with_reducible refine Kd.C_drewN ?_ _) | (with_reducible refine Kd.C_drew ?_))); (case side2 => exact HC0.out); rintro e w7 ⟨rfl, hb⟩; have n0_ := Aside0.mk (blk_below (g := gb173) (o := .cells #[.int .i64 a1_0, .int .i64 a1_1] 24 (0, 0)) (by (with_reducible repeat (first | refine blk_drewN ?_ _ | refine blk_drew ?_ | refine blk_alloc ?_ _)); exact BK173.out) hb); have n1_ := Aside0.mk (below_step (by repeat (first | (with_reducible first | exact HB.out | apply below_alloc | apply pw_below_drewN | apply below_drew1 | refine below_set ?_ GE173.out) | exact HB.out)) hb); clear BK173; clear HB; have BK173 := n0_; have HB := n1_; clear n0_ n1_; (try clear hb); (try clear hb2); (try clear hk); (try clear hi))))
  go_loopg [9, 27] k (fun kq v9 v27 w' => ∃ (x9_1 : Int) (x27_1 : Int), v9 = .int .i64 x9_1 ∧ v27 = .int .i64 x27_1 ∧ Aside0 (verdict_Fits.l0 kq l0 t174 x9_1 l0 (l0.length : Int) x27_1 a1_0 a1_1 = some (r1, r2)) ∧ Aside0 (kq ≤ k) ∧ Aside0 (w'.heap[gb173]? = some (.cells #[.int .i64 a1_0, .int .i64 a1_1] 24 (0, 0))) ∧ Aside0 (Below w.heap.size w w'))
  case atStart => exact ⟨(0), (0), (by first | rfl | (simp; done) | (simp [*]; done)), (by first | rfl | (simp; done) | (simp [*]; done)), H', ⟨Nat.le_refl _⟩, ⟨by (with_reducible repeat (first | refine blk_drewN ?_ _ | refine blk_drew ?_ | refine blk_alloc ?_ _)); exact BK173.out⟩, ⟨by repeat (first | (with_reducible first | exact HB.out | apply below_alloc | apply pw_below_drewN | apply below_drew1 | refine below_set ?_ GE173.out) | exact HB.out)⟩⟩
  case round =>
   clear H'
   (try clear c1); (try clear p2); (try clear c4); (try clear c4b0); (try clear c4b1); (try clear hcz6_0); (try clear hcz6_1); (try clear hfz6_0); (try clear hfz6_1)
   obtain ⟨x9_1, x27_1, rfl, rfl, HA, HK1, BK173, HB⟩ := hrel
   cases gk with
   | zero => exact absurd HA.out (by simp [verdict_Fits.l0])
   | succ k1 =>
    have H := HA.out
    clear HA
    simp only [verdict_Fits.l0] at H
    by_cases c8 : x27_1 < (l0.length : Int)
    ·rw [if_pos c8] at H
     have c8b0 : decide (x27_1 < (l0.length : Int)) = true := decide_eq_true c8
     clear c8
     by_cases c9 : 0 ≤ x27_1
     ·rw [if_pos c9] at H
      have c9b0 : decide (0 ≤ x27_1) = true := decide_eq_true c9
      clear c9
      by_cases c10 : x27_1 < (l0.length : Int)
      ·rw [if_pos c10] at H
       have c10b0 : decide (x27_1 < (l0.length : Int)) = true := decide_eq_true c10
       clear c10
       by_cases c11 : ((rd_T41 l0 x27_1).f2) = 0
       ·rw [if_pos c11] at H
        exact absurd H (by simp)
       ·rw [if_neg c11] at H
        have c11b0 : (((rd_T41 l0 x27_1).f2) == 0) = false := beq_eq_false_iff_ne.mpr c11
        have c11b1 : (((rd_T41 l0 x27_1).f2) != 0) = true := bne_iff_ne.mpr c11
        have H' := Aside0.mk H
        clear H
        have p177 : 0 ≤ (x27_1 : Int) := of_decide_eq_true (by first | (with_reducible assumption) | assumption)
        have q177 : x27_1 < (l0.length : Int) := of_decide_eq_true (by first | (with_reducible assumption) | assumption)
        obtain ⟨ad177, A177_3, c177_3, e177, hx177_0, hx177_1, hx177_2, hx177_3, hl177_3, hi177_3⟩ := at_T41 HR0.out x27_1 p177 q177
        cases e177
        replace hx177_0 := (HB.out.cell (World.block_lt_of_cell? w _ hx177_0)).trans hx177_0
        replace hx177_1 := (HB.out.cell (World.block_lt_of_cell? w _ hx177_1)).trans hx177_1
        replace hx177_2 := (HB.out.cell (World.block_lt_of_cell? w _ hx177_2)).trans hx177_2
        replace hx177_3 := (HB.out.cell (World.block_lt_of_cell? w _ hx177_3)).trans hx177_3
        have HR177_3 := Aside0.mk hi177_3
        have HC177_3 := Aside0.mk hl177_3
        clear hi177_3 hl177_3
        replace p177 := eq_true p177
        replace q177 := eq_true q177
        go_wp2_with (first | ((with_reducible refine gate_dst (N := 11) rfl ?_); refine box_event ?hg (N := 11) ?hd (cs := #[.int .i64 0, .int .i64 0, .int .i64 0, .slice none 0 0]) (t := 41) ?hr ?_; (case hd => rfl); (case hg => rfl); (case hr => first | (go_simp; done) | (go_simp; rfl)); intro gb178 hg w12 hbox hb; have n0_ := Aside0.mk (blk_below (g := gb173) (o := .cells #[.int .i64 a1_0, .int .i64 a1_1] 24 (0, 0)) (by (with_reducible repeat (first | refine blk_drewN ?_ _ | refine blk_drew ?_ | refine blk_alloc ?_ _)); exact BK173.out) hb); have n1_ := Aside0.mk (below_step (by repeat (first | (with_reducible first | exact HB.out | apply below_alloc | apply pw_below_drewN | apply below_drew1 | refine below_set ?_ GE173.out) | exact HB.out)) hb); have n2_ := Aside0.mk (hbox); have n3_ := Aside0.mk ((by rw [hg]; exact (below_size (by repeat (first | (with_reducible first | exact HB.out | apply below_alloc | apply pw_below_drewN | apply below_drew1 | refine below_set ?_ GE173.out) | exact HB.out))) : w.heap.size ≤ gb178)); have n4_ := Aside0.mk ((by rw [hg]; exact (below_size (by repeat (first | (with_reducible first | exact HB.out | apply below_alloc | apply pw_below_drewN | apply below_drew1 | refine below_set ?_ GE173.out) | exact HB.out))) : w.heap.size ≤ gb178)); have n5_ := Aside0.mk ((by rw [hg]; exact Nat.ne_of_lt (blk_lt (g := gb173) (o := .cells #[.int .i64 a1_0, .int .i64 a1_1] 24 (0, 0)) (by (with_reducible repeat (first | refine blk_drewN ?_ _ | refine blk_drew ?_ | refine blk_alloc ?_ _)); exact BK173.out)) : gb173 ≠ gb178)); have n6_ := Aside0.mk ((by rw [hg]; exact Nat.ne_of_gt (blk_lt (g := gb173) (o := .cells #[.int .i64 a1_0, .int .i64 a1_1] 24 (0, 0)) (by (with_reducible repeat (first | refine blk_drewN ?_ _ | refine blk_drew ?_ | refine blk_alloc ?_ _)); exact BK173.out)) : gb178 ≠ gb173)); clear BK173; clear HB; have BK173 := n0_; have HB := n1_; have BK178 := n2_; have GW178 := n3_; have GE178 := n4_; have NB173_178 := n5_; have NB178_173 := n6_; clear n0_ n1_ n2_ n3_ n4_ n5_ n6_; clear hb hbox hg; have hnb13 := NB178_173.out; have hnc13 := NB173_178.out; have hcz14_0 : w12.cell? ⟨gb178, 0, none⟩ = some (.int .i64 0) := (blk_cell BK178.out 0).trans rfl; have hcz14_1 : w12.cell? ⟨gb178, 1, none⟩ = some (.int .i64 0) := (blk_cell BK178.out 1).trans rfl; have hcz14_2 : w12.cell? ⟨gb178, 2, none⟩ = some (.int .i64 0) := (blk_cell BK178.out 2).trans rfl; have hcz14_3 : w12.cell? ⟨gb178, 3, none⟩ = some (.slice none 0 0) := (blk_cell BK178.out 3).trans rfl; have hfz14_0 := blk_frozen BK178.out 0; have hfz14_1 := blk_frozen BK178.out 1; have hfz14_2 := blk_frozen BK178.out 2; have hfz14_3 := blk_frozen BK178.out 3))
        repeat (go_quiet (first | ((with_reducible refine gate_dst (N := 11) rfl ?_); refine box_event ?hg (N := 11) ?hd (cs := #[.int .i64 0, .int .i64 0, .int .i64 0, .slice none 0 0]) (t := 41) ?hr ?_; (case hd => rfl); (case hg => rfl); (case hr => first | (go_simp; done) | (go_simp; rfl)); intro gb178 hg w12 hbox hb; have n0_ := Aside0.mk (blk_below (g := gb173) (o := .cells #[.int .i64 a1_0, .int .i64 a1_1] 24 (0, 0)) (by (with_reducible repeat (first | refine blk_drewN ?_ _ | refine blk_drew ?_ | refine blk_alloc ?_ _)); exact BK173.out) hb); have n1_ := Aside0.mk (below_step (by repeat (first | (with_reducible first | exact HB.out | apply below_alloc | apply pw_below_drewN | apply below_drew1 | refine below_set ?_ GE173.out) | exact HB.out)) hb); have n2_ := Aside0.mk (hbox); have n3_ := Aside0.mk ((by rw [hg]; exact (below_size (by repeat (first | (with_reducible first | exact HB.out | apply below_alloc | apply pw_below_drewN | apply below_drew1 | refine below_set ?_ GE173.out) | exact HB.out))) : w.heap.size ≤ gb178)); have n4_ := Aside0.mk ((by rw [hg]; exact (below_size (by repeat (first | (with_reducible first | exact HB.out | apply below_alloc | apply pw_below_drewN | apply below_drew1 | refine below_set ?_ GE173.out) | exact HB.out))) : w.heap.size ≤ gb178)); have n5_ := Aside0.mk ((by rw [hg]; exact Nat.ne_of_lt (blk_lt (g := gb173) (o := .cells #[.int .i64 a1_0, .int .i64 a1_1] 24 (0, 0)) (by (with_reducible repeat (first | refine blk_drewN ?_ _ | refine blk_drew ?_ | refine blk_alloc ?_ _)); exact BK173.out)) : gb173 ≠ gb178)); have n6_ := Aside0.mk ((by rw [hg]; exact Nat.ne_of_gt (blk_lt (g := gb173) (o := .cells #[.int .i64 a1_0, .int .i64 a1_1] 24 (0, 0)) (by (with_reducible repeat (first | refine blk_drewN ?_ _ | refine blk_drew ?_ | refine blk_alloc ?_ _)); exact BK173.out)) : gb178 ≠ gb173)); clear BK173; clear HB; have BK173 := n0_; have HB := n1_; have BK178 := n2_; have GW178 := n3_; have GE178 := n4_; have NB173_178 := n5_; have NB178_173 := n6_; clear n0_ n1_ n2_ n3_ n4_ n5_ n6_; clear hb hbox hg; have hnb13 := NB178_173.out; have hnc13 := NB173_178.out; have hcz14_0 : w12.cell? ⟨gb178, 0, none⟩ = some (.int .i64 0) := (blk_cell BK178.out 0).trans rfl; have hcz14_1 : w12.cell? ⟨gb178, 1, none⟩ = some (.int .i64 0) := (blk_cell BK178.out 1).trans rfl; have hcz14_2 : w12.cell? ⟨gb178, 2, none⟩ = some (.int .i64 0) := (blk_cell BK178.out 2).trans rfl; have hcz14_3 : w12.cell? ⟨gb178, 3, none⟩ = some (.slice none 0 0) := (blk_cell BK178.out 3).trans rfl; have hfz14_0 := blk_frozen BK178.out 0; have hfz14_1 := blk_frozen BK178.out 1; have hfz14_2 := blk_frozen BK178.out 2; have hfz14_3 := blk_frozen BK178.out 3)); try go_wp2_with (first | ((with_reducible refine gate_dst (N := 11) rfl ?_); refine box_event ?hg (N := 11) ?hd (cs := #[.int .i64 0, .int .i64 0, .int .i64 0, .slice none 0 0]) (t := 41) ?hr ?_; (case hd => rfl); (case hg => rfl); (case hr => first | (go_simp; done) | (go_simp; rfl)); intro gb178 hg w12 hbox hb; have n0_ := Aside0.mk (blk_below (g := gb173) (o := .cells #[.int .i64 a1_0, .int .i64 a1_1] 24 (0, 0)) (by (with_reducible repeat (first | refine blk_drewN ?_ _ | refine blk_drew ?_ | refine blk_alloc ?_ _)); exact BK173.out) hb); have n1_ := Aside0.mk (below_step (by repeat (first | (with_reducible first | exact HB.out | apply below_alloc | apply pw_below_drewN | apply below_drew1 | refine below_set ?_ GE173.out) | exact HB.out)) hb); have n2_ := Aside0.mk (hbox); have n3_ := Aside0.mk ((by rw [hg]; exact (below_size (by repeat (first | (with_reducible first | exact HB.out | apply below_alloc | apply pw_below_drewN | apply below_drew1 | refine below_set ?_ GE173.out) | exact HB.out))) : w.heap.size ≤ gb178)); have n4_ := Aside0.mk ((by rw [hg]; exact (below_size (by repeat (first | (with_reducible first | exact HB.out | apply below_alloc | apply pw_below_drewN | apply below_drew1 | refine below_set ?_ GE173.out) | exact HB.out))) : w.heap.size ≤ gb178)); have n5_ := Aside0.mk ((by rw [hg]; exact Nat.ne_of_lt (blk_lt (g := gb173) (o := .cells #[.int .i64 a1_0, .int .i64 a1_1] 24 (0, 0)) (by (with_reducible repeat (first | refine blk_drewN ?_ _ | refine blk_drew ?_ | refine blk_alloc ?_ _)); exact BK173.out)) : gb173 ≠ gb178)); have n6_ := Aside0.mk ((by rw [hg]; exact Nat.ne_of_gt (blk_lt (g := gb173) (o := .cells #[.int .i64 a1_0, .int .i64 a1_1] 24 (0, 0)) (by (with_reducible repeat (first | refine blk_drewN ?_ _ | refine blk_drew ?_ | refine blk_alloc ?_ _)); exact BK173.out)) : gb178 ≠ gb173)); clear BK173; clear HB; have BK173 := n0_; have HB := n1_; have BK178 := n2_; have GW178 := n3_; have GE178 := n4_; have NB173_178 := n5_; have NB178_173 := n6_; clear n0_ n1_ n2_ n3_ n4_ n5_ n6_; clear hb hbox hg; have hnb13 := NB178_173.out; have hnc13 := NB173_178.out; have hcz14_0 : w12.cell? ⟨gb178, 0, none⟩ = some (.int .i64 0) := (blk_cell BK178.out 0).trans rfl; have hcz14_1 : w12.cell? ⟨gb178, 1, none⟩ = some (.int .i64 0) := (blk_cell BK178.out 1).trans rfl; have hcz14_2 : w12.cell? ⟨gb178, 2, none⟩ = some (.int .i64 0) := (blk_cell BK178.out 2).trans rfl; have hcz14_3 : w12.cell? ⟨gb178, 3, none⟩ = some (.slice none 0 0) := (blk_cell BK178.out 3).trans rfl; have hfz14_0 := blk_frozen BK178.out 0; have hfz14_1 := blk_frozen BK178.out 1; have hfz14_2 := blk_frozen BK178.out 2; have hfz14_3 := blk_frozen BK178.out 3)))
        go_roundg k1
        case measure => have := HK1.out; omega
        case rel => exact ⟨(wrap64 (x9_1 + (wrap64 ((wrap64 (Int.tdiv t174 ((rd_T41 l0 x27_1).f2))) * ((rd_T41 l0 x27_1).f0))))), (wrap64 (x27_1 + 1)), (by first | rfl | (simp; done) | (simp [*]; done)), (by first | rfl | (simp; done) | (simp [*]; done)), H', ⟨by have := HK1.out; omega⟩, ⟨by (with_reducible repeat (first | refine blk_drewN ?_ _ | refine blk_drew ?_ | refine blk_alloc ?_ _)); refine blk_far ?_ NB173_178.out _; (with_reducible repeat (first | refine blk_drewN ?_ _ | refine blk_drew ?_ | refine blk_alloc ?_ _)); refine blk_far ?_ NB173_178.out _; (with_reducible repeat (first | refine blk_drewN ?_ _ | refine blk_drew ?_ | refine blk_alloc ?_ _)); refine blk_far ?_ NB173_178.out _; (with_reducible repeat (first | refine blk_drewN ?_ _ | refine blk_drew ?_ | refine blk_alloc ?_ _)); refine blk_far ?_ NB173_178.out _; (with_reducible repeat (first | refine blk_drewN ?_ _ | refine blk_drew ?_ | refine blk_alloc ?_ _)); exact BK173.out⟩, ⟨by repeat (first | (with_reducible first | exact HB.out | apply below_alloc | apply pw_below_drewN | apply below_drew1 | refine below_set ?_ GE173.out | refine below_set ?_ GE178.out) | exact HB.out)⟩⟩
      ·rw [if_neg c10] at H
       exact absurd H (by simp)
     ·rw [if_neg c9] at H
      exact absurd H (by simp)
    ·rw [if_neg c8] at H
     have c8b0 : decide (x27_1 < (l0.length : Int)) = false := decide_eq_false c8
     clear c8
     by_cases c15 : a1_0 = 0
     ·rw [if_pos c15] at H
      exact absurd H (by simp)
     ·rw [if_neg c15] at H
      have c15b0 : (a1_0 == 0) = false := beq_eq_false_iff_ne.mpr c15
      have c15b1 : (a1_0 != 0) = true := bne_iff_ne.mpr c15
      by_cases c16 : x9_1 > (wrap64 ((wrap64 (Int.tdiv t174 a1_0)) * a1_1))
      ·rw [if_pos c16] at H
       have c16b0 : decide ((wrap64 ((wrap64 (Int.tdiv t174 a1_0)) * a1_1)) < x9_1) = true := decide_eq_true c16
       clear c16
       simp only [Option.some.injEq, Prod.mk.injEq] at H
       obtain ⟨rfl, rfl⟩ := H
       have hcz17_0 : wr.cell? ⟨gb173, 0, none⟩ = some (.int .i64 a1_0) := (blk_cell BK173.out 0).trans rfl
       have hcz17_1 : wr.cell? ⟨gb173, 1, none⟩ = some (.int .i64 a1_1) := (blk_cell BK173.out 1).trans rfl
       have hfz17_0 := blk_frozen BK173.out 0
       have hfz17_1 := blk_frozen BK173.out 1
       go_wp2
       repeat (go_quiet (fail); try go_wp2)
       go_ret2
       exact ⟨by first | rfl | (simp [errW_none, errW_some] <;> rfl) | (simp [*, errW_none, errW_some] <;> rfl), by repeat (first | (with_reducible first | exact HB.out | apply below_alloc | apply pw_below_drewN | apply below_drew1 | refine below_set ?_ GE173.out) | exact HB.out)⟩
      ·rw [if_neg c16] at H
       have c16b0 : decide ((wrap64 ((wrap64 (Int.tdiv t174 a1_0)) * a1_1)) < x9_1) = false := decide_eq_false c16
       clear c16
       replace H := Option.bind_eq_some_iff.mp H
       obtain ⟨⟨t179, t180, t181⟩, A180, H⟩ := H
       replace H : (some (!t180, 0)) = some (r1, r2) := H
       have A18 := Aside0.mk A180
       clear A180
       simp only [Option.some.injEq, Prod.mk.injEq] at H
       obtain ⟨rfl, rfl⟩ := H
       have hcz19_0 : wr.cell? ⟨gb173, 0, none⟩ = some (.int .i64 a1_0) := (blk_cell BK173.out 0).trans rfl
       have hcz19_1 : wr.cell? ⟨gb173, 1, none⟩ = some (.int .i64 a1_1) := (blk_cell BK173.out 1).trans rfl
       have hfz19_0 := blk_frozen BK173.out 0
       have hfz19_1 := blk_frozen BK173.out 1
       go_wp2_with (first | (go_at_call 16; (with_reducible refine (verdict_First.calls _ _ l0 a1_0 a1_1 t179 t180 t181 _ ?side1 ?side2 A18.out).mono ?_); (case side1 => repeat (first | exact (Kd.C_below HR0.out HB.out) | (with_reducible refine Kd.C_alloc ?_ _) | (with_reducible refine Kd.C_drewN ?_ _) | (with_reducible refine Kd.C_drew ?_))); (case side2 => exact HC0.out); rintro e w20 ⟨rfl, hb⟩; have n0_ := Aside0.mk (blk_below (g := gb173) (o := .cells #[.int .i64 a1_0, .int .i64 a1_1] 24 (0, 0)) (by (with_reducible repeat (first | refine blk_drewN ?_ _ | refine blk_drew ?_ | refine blk_alloc ?_ _)); exact BK173.out) hb); have n1_ := Aside0.mk (below_step (by repeat (first | (with_reducible first | exact HB.out | apply below_alloc | apply pw_below_drewN | apply below_drew1 | refine below_set ?_ GE173.out) | exact HB.out)) hb); clear BK173; clear HB; have BK173 := n0_; have HB := n1_; clear n0_ n1_; (try clear hb); (try clear hb2); (try clear hk); (try clear hi)))
       repeat (go_quiet (first | (go_at_call 16; (with_reducible refine (verdict_First.calls _ _ l0 a1_0 a1_1 t179 t180 t181 _ ?side1 ?side2 A18.out).mono ?_); (case side1 => repeat (first | exact (Kd.C_below HR0.out HB.out) | (with_reducible refine Kd.C_alloc ?_ _) | (with_reducible refine Kd.C_drewN ?_ _) | (with_reducible refine Kd.C_drew ?_))); (case side2 => exact HC0.out); rintro e w20 ⟨rfl, hb⟩; have n0_ := Aside0.mk (blk_below (g := gb173) (o := .cells #[.int .i64 a1_0, .int .i64 a1_1] 24 (0, 0)) (by (with_reducible repeat (first | refine blk_drewN ?_ _ | refine blk_drew ?_ | refine blk_alloc ?_ _)); exact BK173.out) hb); have n1_ := Aside0.mk (below_step (by repeat (first | (with_reducible first | exact HB.out | apply below_alloc | apply pw_below_drewN | apply below_drew1 | refine below_set ?_ GE173.out) | exact HB.out)) hb); clear BK173; clear HB; have BK173 := n0_; have HB := n1_; clear n0_ n1_; (try clear hb); (try clear hb2); (try clear hk); (try clear hi))); try go_wp2_with (first | (go_at_call 16; (with_reducible refine (verdict_First.calls _ _ l0 a1_0 a1_1 t179 t180 t181 _ ?side1 ?side2 A18.out).mono ?_); (case side1 => repeat (first | exact (Kd.C_below HR0.out HB.out) | (with_reducible refine Kd.C_alloc ?_ _) | (with_reducible refine Kd.C_drewN ?_ _) | (with_reducible refine Kd.C_drew ?_))); (case side2 => exact HC0.out); rintro e w20 ⟨rfl, hb⟩; have n0_ := Aside0.mk (blk_below (g := gb173) (o := .cells #[.int .i64 a1_0, .int .i64 a1_1] 24 (0, 0)) (by (with_reducible repeat (first | refine blk_drewN ?_ _ | refine blk_drew ?_ | refine blk_alloc ?_ _)); exact BK173.out) hb); have n1_ := Aside0.mk (below_step (by repeat (first | (with_reducible first | exact HB.out | apply below_alloc | apply pw_below_drewN | apply below_drew1 | refine below_set ?_ GE173.out) | exact HB.out)) hb); clear BK173; clear HB; have BK173 := n0_; have HB := n1_; clear n0_ n1_; (try clear hb); (try clear hb2); (try clear hk); (try clear hi))))
       go_ret2
       exact ⟨by first | rfl | (simp [errW_none, errW_some] <;> rfl) | (simp [*, errW_none, errW_some] <;> rfl), by repeat (first | (with_reducible first | exact HB.out | apply below_alloc | apply pw_below_drewN | apply below_drew1 | refine below_set ?_ GE173.out) | exact HB.out)⟩
 ·rw [if_neg c4] at H
  have c4b0 : (t176 == 0) = false := beq_eq_false_iff_ne.mpr c4
  have c4b1 : (t176 != 0) = true := bne_iff_ne.mpr c4
  simp only [Option.some.injEq, Prod.mk.injEq] at H
  obtain ⟨rfl, rfl⟩ := H
  go_enter Try.func12, Try.ntmps12
  go_wp2_with (first | ((with_reducible refine gate_dst (N := 3) rfl ?_); refine box_event ?hg (N := 3) ?hd (cs := #[.int .i64 a1_0, .int .i64 a1_1]) (t := 24) ?hr ?_; (case hd => rfl); (case hg => rfl); (case hr => first | (go_simp; done) | (go_simp; rfl)); intro gb173 hg w21 hbox hb; have n0_ := Aside0.mk (below_step (by repeat (first | (with_reducible first | exact HB.out | apply below_alloc | apply pw_below_drewN | apply below_drew1) | exact HB.out)) hb); have n1_ := Aside0.mk (hbox); have n2_ := Aside0.mk ((by rw [hg]; exact (below_size (by repeat (first | (with_reducible first | exact HB.out | apply below_alloc | apply pw_below_drewN | apply below_drew1) | exact HB.out))) : w.heap.size ≤ gb173)); have n3_ := Aside0.mk ((by rw [hg]; exact (below_size (by repeat (first | (with_reducible first | exact HB.out | apply below_alloc | apply pw_below_drewN | apply below_drew1) | exact HB.out))) : w.heap.size ≤ gb173)); clear HB; have HB := n0_; have BK173 := n1_; have GW173 := n2_; have GE173 := n3_; clear n0_ n1_ n2_ n3_; clear hb hbox hg; have hcz22_0 : w21.cell? ⟨gb173, 0, none⟩ = some (.int .i64 a1_0) := (blk_cell BK173.out 0).trans rfl; have hcz22_1 : w21.cell? ⟨gb173, 1, none⟩ = some (.int .i64 a1_1) := (blk_cell BK173.out 1).trans rfl; have hfz22_0 := blk_frozen BK173.out 0; have hfz22_1 := blk_frozen BK173.out 1) | (go_at_call 24; (with_reducible refine (verdict_Cycle.calls k _ _ l0 a1_0 a1_1 t174 t175 t176 _ ?side1 ?side2 A3.out).mono ?_); (case side1 => repeat (first | exact (Kd.C_below HR0.out HB.out) | (with_reducible refine Kd.C_alloc ?_ _) | (with_reducible refine Kd.C_drewN ?_ _) | (with_reducible refine Kd.C_drew ?_))); (case side2 => exact HC0.out); rintro e w23 ⟨rfl, hb⟩; have n0_ := Aside0.mk (blk_below (g := gb173) (o := .cells #[.int .i64 a1_0, .int .i64 a1_1] 24 (0, 0)) (by (with_reducible repeat (first | refine blk_drewN ?_ _ | refine blk_drew ?_ | refine blk_alloc ?_ _)); exact BK173.out) hb); have n1_ := Aside0.mk (below_step (by repeat (first | (with_reducible first | exact HB.out | apply below_alloc | apply pw_below_drewN | apply below_drew1 | refine below_set ?_ GE173.out) | exact HB.out)) hb); clear BK173; clear HB; have BK173 := n0_; have HB := n1_; clear n0_ n1_; (try clear hb); (try clear hb2); (try clear hk); (try clear hi)))
  repeat (go_quiet (first | ((with_reducible refine gate_dst (N := 3) rfl ?_); refine box_event ?hg (N := 3) ?hd (cs := #[.int .i64 a1_0, .int .i64 a1_1]) (t := 24) ?hr ?_; (case hd => rfl); (case hg => rfl); (case hr => first | (go_simp; done) | (go_simp; rfl)); intro gb173 hg w21 hbox hb; have n0_ := Aside0.mk (below_step (by repeat (first | (with_reducible first | exact HB.out | apply below_alloc | apply pw_below_drewN | apply below_drew1) | exact HB.out)) hb); have n1_ := Aside0.mk (hbox); have n2_ := Aside0.mk ((by rw [hg]; exact (below_size (by repeat (first | (with_reducible first | exact HB.out | apply below_alloc | apply pw_below_drewN | apply below_drew1) | exact HB.out))) : w.heap.size ≤ gb173)); have n3_ := Aside0.mk ((by rw [hg]; exact (below_size (by repeat (first | (with_reducible first | exact HB.out | apply below_alloc | apply pw_below_drewN | apply below_drew1) | exact HB.out))) : w.heap.size ≤ gb173)); clear HB; have HB := n0_; have BK173 := n1_; have GW173 := n2_; have GE173 := n3_; clear n0_ n1_ n2_ n3_; clear hb hbox hg; have hcz22_0 : w21.cell? ⟨gb173, 0, none⟩ = some (.int .i64 a1_0) := (blk_cell BK173.out 0).trans rfl; have hcz22_1 : w21.cell? ⟨gb173, 1, none⟩ = some (.int .i64 a1_1) := (blk_cell BK173.out 1).trans rfl; have hfz22_0 := blk_frozen BK173.out 0; have hfz22_1 := blk_frozen BK173.out 1) | (go_at_call 24; (with_reducible refine (verdict_Cycle.calls k _ _ l0 a1_0 a1_1 t174 t175 t176 _ ?side1 ?side2 A3.out).mono ?_); (case side1 => repeat (first | exact (Kd.C_below HR0.out HB.out) | (with_reducible refine Kd.C_alloc ?_ _) | (with_reducible refine Kd.C_drewN ?_ _) | (with_reducible refine Kd.C_drew ?_))); (case side2 => exact HC0.out); rintro e w23 ⟨rfl, hb⟩; have n0_ := Aside0.mk (blk_below (g := gb173) (o := .cells #[.int .i64 a1_0, .int .i64 a1_1] 24 (0, 0)) (by (with_reducible repeat (first | refine blk_drewN ?_ _ | refine blk_drew ?_ | refine blk_alloc ?_ _)); exact BK173.out) hb); have n1_ := Aside0.mk (below_step (by repeat (first | (with_reducible first | exact HB.out | apply below_alloc | apply pw_below_drewN | apply below_drew1 | refine below_set ?_ GE173.out) | exact HB.out)) hb); clear BK173; clear HB; have BK173 := n0_; have HB := n1_; clear n0_ n1_; (try clear hb); (try clear hb2); (try clear hk); (try clear hi))); try go_wp2_with (first | ((with_reducible refine gate_dst (N := 3) rfl ?_); refine box_event ?hg (N := 3) ?hd (cs := #[.int .i64 a1_0, .int .i64 a1_1]) (t := 24) ?hr ?_; (case hd => rfl); (case hg => rfl); (case hr => first | (go_simp; done) | (go_simp; rfl)); intro gb173 hg w21 hbox hb; have n0_ := Aside0.mk (below_step (by repeat (first | (with_reducible first | exact HB.out | apply below_alloc | apply pw_below_drewN | apply below_drew1) | exact HB.out)) hb); have n1_ := Aside0.mk (hbox); have n2_ := Aside0.mk ((by rw [hg]; exact (below_size (by repeat (first | (with_reducible first | exact HB.out | apply below_alloc | apply pw_below_drewN | apply below_drew1) | exact HB.out))) : w.heap.size ≤ gb173)); have n3_ := Aside0.mk ((by rw [hg]; exact (below_size (by repeat (first | (with_reducible first | exact HB.out | apply below_alloc | apply pw_below_drewN | apply below_drew1) | exact HB.out))) : w.heap.size ≤ gb173)); clear HB; have HB := n0_; have BK173 := n1_; have GW173 := n2_; have GE173 := n3_; clear n0_ n1_ n2_ n3_; clear hb hbox hg; have hcz22_0 : w21.cell? ⟨gb173, 0, none⟩ = some (.int .i64 a1_0) := (blk_cell BK173.out 0).trans rfl; have hcz22_1 : w21.cell? ⟨gb173, 1, none⟩ = some (.int .i64 a1_1) := (blk_cell BK173.out 1).trans rfl; have hfz22_0 := blk_frozen BK173.out 0; have hfz22_1 := blk_frozen BK173.out 1) | (go_at_call 24; (with_reducible refine (verdict_Cycle.calls k _ _ l0 a1_0 a1_1 t174 t175 t176 _ ?side1 ?side2 A3.out).mono ?_); (case side1 => repeat (first | exact (Kd.C_below HR0.out HB.out) | (with_reducible refine Kd.C_alloc ?_ _) | (with_reducible refine Kd.C_drewN ?_ _) | (with_reducible refine Kd.C_drew ?_))); (case side2 => exact HC0.out); rintro e w23 ⟨rfl, hb⟩; have n0_ := Aside0.mk (blk_below (g := gb173) (o := .cells #[.int .i64 a1_0, .int .i64 a1_1] 24 (0, 0)) (by (with_reducible repeat (first | refine blk_drewN ?_ _ | refine blk_drew ?_ | refine blk_alloc ?_ _)); exact BK173.out) hb); have n1_ := Aside0.mk (below_step (by repeat (first | (with_reducible first | exact HB.out | apply below_alloc | apply pw_below_drewN | apply below_drew1 | refine below_set ?_ GE173.out) | exact HB.out)) hb); clear BK173; clear HB; have BK173 := n0_; have HB := n1_; clear n0_ n1_; (try clear hb); (try clear hb2); (try clear hk); (try clear hi))))
  go_ret2
  exact ⟨by first | rfl | (simp [errW_none, errW_some] <;> rfl) | (simp [*, errW_none, errW_some] <;> rfl), by repeat (first | (with_reducible first | exact HB.out | apply below_alloc | apply pw_below_drewN | apply below_drew1 | refine below_set ?_ GE173.out) | exact HB.out)⟩
def asked (l : List (S41)) (c : Int) : Int := (l.map fun x => c / x.f2 * x.f0).sum
def fitsR (l : List (S41)) (p b : Int) : Bool × Int := if (cycF l p b).2.2 = 0 then (if asked l (cycF l p b).1 > (cycF l p b).1 / p * b then (false, 0) else (!(firstR l p b).2.1, 0)) else (false, (cycF l p b).2.2)
theorem asked_append (l m : List (S41)) (c : Int) : asked (l ++ m) c = asked l c + asked m c := by simp [asked]
theorem asked_one (x : S41) (c : Int) : asked [x] c = c / x.f2 * x.f0 := by simp [asked]
theorem ask_bd {c t x : Int} (hc : 0 ≤ c ∧ c ≤ 3000) (ht : 1 ≤ t) (hx : 1 ≤ x ∧ x ≤ 200) : 0 ≤ c / t ∧ c / t ≤ 3000 ∧ 0 ≤ c / t * x ∧ c / t * x ≤ 600000 := by
  have h0 : 0 ≤ c / t := Int.ediv_nonneg (by omega) (by omega)
  have h1 : c / t ≤ c := Int.ediv_le_self _ (by omega)
  have h2 : 0 ≤ c / t * x := Int.mul_nonneg h0 (by omega)
  have h3 : c / t * x ≤ 3000 * 200 := Int.mul_le_mul (by omega) (by omega) (by omega) (by omega)
  omega
theorem asked_bd {c : Int} (hc : 0 ≤ c ∧ c ≤ 3000) : ∀ {l : List (S41)}, (∀ x ∈ l, okT x = true) → 0 ≤ asked l c ∧ asked l c ≤ l.length * 600000
  | [], _ => by simp [asked]
  | x :: l, h => by
    have ih := asked_bd hc (l := l) (fun y hy => h y (List.mem_cons_of_mem _ hy))
    have hx := okTask_nums (h x List.mem_cons_self)
    have hj := ask_bd (t := x.f2) (x := x.f0) hc (by omega) (by omega)
    have e : asked (x :: l) c = c / x.f2 * x.f0 + asked l c := by simp [asked]
    rw [e, List.length_cons]; push_cast; omega
theorem verdict_Fits.l0_ev (l0 : List (S41)) (c p b : Int) (hc : 0 ≤ c ∧ c ≤ 3000) (hp : okFace p b = true) (hl0 : (l0.length : Int) ≤ 1000000) (hok0 : ∀ x ∈ l0, okT x = true) :
    ∀ (rest pre : List (S41)), pre ++ rest = l0 →
    Ev (fun k => verdict_Fits.l0 k l0 c (asked pre c) (pre ++ rest) ((pre ++ rest).length : Int) (pre.length : Int) p b) (if asked l0 c > c / p * b then (false, 0) else (!(firstR l0 p b).2.1, 0)) := by
  have hpp := okFace_iff.mp hp
  intro rest
  induction rest with
  | nil =>
    intro pre hpre
    have hd : Int.tdiv c p = c / p := Int.tdiv_eq_ediv_of_nonneg (by omega)
    have hb := ask_bd (t := p) (x := b) hc (by omega) (by omega)
    have e0 : pre = l0 := by simpa using hpre
    subst e0
    refine Ev.step (f := fun _ => some (if asked pre c > c / p * b then (false, 0) else (!(firstR pre p b).2.1, 0))) (fun k => ?_) (Ev.now _)
    simp only [verdict_Fits.l0]
    rw [if_neg (by simp), if_neg (by omega), hd, w64 (n := c / p) (by omega), w64 (n := c / p * b) (by omega)]
    by_cases h : asked pre c > c / p * b
    · rw [if_pos h, if_pos h]
    · rw [if_neg h, if_neg h]
      unfold verdict_First.f
      rw [if_pos hl0]
      rfl
  | cons x rest ih =>
    intro pre hpre
    have hl : (pre.length : Int) ≤ 1000000 := by rw [← hpre] at hl0; simp at hl0; omega
    have e : rd_T41 (pre ++ x :: rest) (pre.length : Int) = x := getD_mid _ _ _ _
    have hx := okTask_nums (hok0 x (by rw [← hpre]; simp))
    have hd : Int.tdiv c x.f2 = c / x.f2 := Int.tdiv_eq_ediv_of_nonneg (by omega)
    have hb := ask_bd (t := x.f2) (x := x.f0) hc (by omega) (by omega)
    have ha := asked_bd hc (l := pre) (fun y hy => hok0 y (by rw [← hpre]; simp [hy]))
    have es : asked (pre ++ [x]) c = asked pre c + c / x.f2 * x.f0 := by rw [asked_append, asked_one]
    have ih2 := ih (pre ++ [x]) (by simpa using hpre)
    refine Ev.step (fun k => ?_) ih2
    simp only [verdict_Fits.l0]
    rw [if_pos (len_mid _ _ _), if_pos (by omega), if_pos (len_mid _ _ _), e, if_neg (by omega), hd, w64 (n := c / x.f2) (by omega), w64 (n := c / x.f2 * x.f0) (by omega), w64 (n := asked pre c + c / x.f2 * x.f0) (by omega), wrap_succ _ (by omega), es]
    simp
theorem verdict_Fits.ev (l : List (S41)) (p b : Int) (hl : (l.length : Int) ≤ 1000000) : Ev (fun k => verdict_Fits.f k l p b) (fitsR l p b) := by
  refine Ev.congr (f := fun k => (verdict_Cycle.f k l p b).bind fun bt => if bt.2.2 = 0 then verdict_Fits.l0 k l bt.1 0 l (l.length : Int) 0 p b else some (false, bt.2.2)) (fun k => rfl) (Ev.bind (a := cycF l p b) (verdict_Cycle.ev l p b hl) ?_)
  unfold fitsR
  by_cases h : (cycF l p b).2.2 = 0
  · rw [if_pos h]
    obtain ⟨hok, hf, c, far, _, e, hc1, hc2, hc3⟩ := cycF_ok h
    have hpp := okFace_iff.mp hf
    have h0 := verdict_Fits.l0_ev l c p b ⟨by omega, by omega⟩ hf hl (okAll_parts hok).1 l [] rfl
    refine Ev.congr (f := fun k => verdict_Fits.l0 k l c 0 l (l.length : Int) 0 p b) (fun k => ?_) ?_
    · try dsimp only
      rw [if_pos h, e]
    · have ea : asked ([] : List (S41)) c = 0 := rfl
      rw [ea] at h0
      rw [e]
      simpa using h0
  · rw [if_neg h]
    refine Ev.congr (f := fun _ => some (false, (cycF l p b).2.2)) (fun k => ?_) (Ev.now _)
    try dsimp only
    rw [if_neg h]
end Go.Proofs.Ytljgloljncokeaa.PQa
