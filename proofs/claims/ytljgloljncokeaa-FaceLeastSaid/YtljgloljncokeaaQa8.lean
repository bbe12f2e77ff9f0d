-- Written by a program of this session (pp.py, over the kit's print) out of the translation; functions with closures by hand.
import Derived.Test.YtljgloljncokeaaQa0
import Derived.Test.YtljgloljncokeaaQa2
namespace Go.Proofs.Ytljgloljncokeaa.PQa
open Go.RowKit Go.Proofs.YtljgloljncokeaaW.PrintWords Go.Proofs.YtljgloljncokeaaW.PrintLast Go.Proofs.YtljgloljncokeaaW.PrintMore
attribute [local go_sem] max2_int min2_int max_two min_two max_three min_three max_four min_four   -- for this text's walks alone
set_option linter.unusedVariables false
set_option linter.unusedSimpArgs false
/-! ### remontoirref05_Right: function 37 -/
mutual
def remontoirref05_Right.j0 : Nat → Bool → Int → Int → Int → List (S63) → Option (Bool)
 | 0, _, _, _, _, _ => none
 | k + 1, x37, x206000, x206001, x206002, x206003 => if x37 = true then (some false) else (remontoirref05_Right.l0 k 0 x206000 x206001 x206002 x206003)
def remontoirref05_Right.l0 : Nat → Int → Int → Int → Int → List (S63) → Option (Bool)
 | 0, _, _, _, _, _ => none
 | k + 1, x3, x206000, x206001, x206002, x206003 => if x3 < (x206003.length : Int) then (if 0 ≤ x3 then (if ((rd_T63 x206003 x3).f0) < 0 then (remontoirref05_Right.j2 k x3 true x206000 x206001 x206002 x206003 ((rd_T63 x206003 x3).f0) ((rd_T63 x206003 x3).f1) ((rd_T63 x206003 x3).f2)) else (if ((rd_T63 x206003 x3).f0) > 3 then (remontoirref05_Right.j2 k x3 true x206000 x206001 x206002 x206003 ((rd_T63 x206003 x3).f0) ((rd_T63 x206003 x3).f1) ((rd_T63 x206003 x3).f2)) else (if ((rd_T63 x206003 x3).f1) < 0 then (remontoirref05_Right.j2 k x3 true x206000 x206001 x206002 x206003 ((rd_T63 x206003 x3).f0) ((rd_T63 x206003 x3).f1) ((rd_T63 x206003 x3).f2)) else (if ((rd_T63 x206003 x3).f2) < 1 then (remontoirref05_Right.j2 k x3 true x206000 x206001 x206002 x206003 ((rd_T63 x206003 x3).f0) ((rd_T63 x206003 x3).f1) ((rd_T63 x206003 x3).f2)) else (if ((rd_T63 x206003 x3).f1) > x206000 then (remontoirref05_Right.j2 k x3 true x206000 x206001 x206002 x206003 ((rd_T63 x206003 x3).f0) ((rd_T63 x206003 x3).f1) ((rd_T63 x206003 x3).f2)) else (if ((rd_T63 x206003 x3).f2) > x206000 then (remontoirref05_Right.j2 k x3 true x206000 x206001 x206002 x206003 ((rd_T63 x206003 x3).f0) ((rd_T63 x206003 x3).f1) ((rd_T63 x206003 x3).f2)) else (remontoirref05_Right.j2 k x3 (decide ((wrap64 (((rd_T63 x206003 x3).f1) + ((rd_T63 x206003 x3).f2))) > x206000)) x206000 x206001 x206002 x206003 ((rd_T63 x206003 x3).f0) ((rd_T63 x206003 x3).f1) ((rd_T63 x206003 x3).f2)))))))) else (none)) else (some true)
def remontoirref05_Right.j2 : Nat → Int → Bool → Int → Int → Int → List (S63) → Int → Int → Int → Option (Bool)
 | 0, _, _, _, _, _, _, _, _, _ => none
 | k + 1, x3, x91, x206000, x206001, x206002, x206003, x208000, x208001, x208002 => if x91 = true then (some false) else (remontoirref05_Right.l1 k x3 0 x206000 x206001 x206002 x206003 x208000 x208001 x208002)
def remontoirref05_Right.l1 : Nat → Int → Int → Int → Int → Int → List (S63) → Int → Int → Int → Option (Bool)
 | 0, _, _, _, _, _, _, _, _, _ => none
 | k + 1, x3, x5, x206000, x206001, x206002, x206003, x208000, x208001, x208002 => if x5 < x3 then (if 0 ≤ x5 then (if x5 < (x206003.length : Int) then (if x208001 < ((rd_T63 x206003 x5).f1) then (remontoirref05_Right.j4 k x3 x5 true x206000 x206001 x206002 x206003 x208000 x208001 x208002 ((rd_T63 x206003 x5).f0) ((rd_T63 x206003 x5).f1) ((rd_T63 x206003 x5).f2)) else (if x208001 = ((rd_T63 x206003 x5).f1) then (remontoirref05_Right.j4 k x3 x5 (decide (x208002 > ((rd_T63 x206003 x5).f2))) x206000 x206001 x206002 x206003 x208000 x208001 x208002 ((rd_T63 x206003 x5).f0) ((rd_T63 x206003 x5).f1) ((rd_T63 x206003 x5).f2)) else (remontoirref05_Right.j4 k x3 x5 false x206000 x206001 x206002 x206003 x208000 x208001 x208002 ((rd_T63 x206003 x5).f0) ((rd_T63 x206003 x5).f1) ((rd_T63 x206003 x5).f2)))) else (none)) else (none)) else (remontoirref05_Right.l0 k (wrap64 (x3 + 1)) x206000 x206001 x206002 x206003)
def remontoirref05_Right.j4 : Nat → Int → Int → Bool → Int → Int → Int → List (S63) → Int → Int → Int → Int → Int → Int → Option (Bool)
 | 0, _, _, _, _, _, _, _, _, _, _, _, _, _ => none
 | k + 1, x3, x5, x120, x206000, x206001, x206002, x206003, x208000, x208001, x208002, x210000, x210001, x210002 => if x120 = true then (some false) else (remontoirref05_Right.l2 k x3 x5 0 0 x208001 x206000 x206001 x206002 x206003 x208000 x208001 x208002 x210000 x210001 x210002)
def remontoirref05_Right.l2 : Nat → Int → Int → Int → Int → Int → Int → Int → Int → List (S63) → Int → Int → Int → Int → Int → Int → Option (Bool)
 | 0, _, _, _, _, _, _, _, _, _, _, _, _, _, _, _ => none
 | k + 1, x3, x5, x7, x8, x9, x206000, x206001, x206002, x206003, x208000, x208001, x208002, x210000, x210001, x210002 => if x9 < (wrap64 (x208001 + x208002)) then (if x9 < (wrap64 (x210001 + x210002)) then (remontoirref05_Right.l2 k x3 x5 (wrap64 (x7 + 1)) x8 (wrap64 (x9 + 1)) x206000 x206001 x206002 x206003 x208000 x208001 x208002 x210000 x210001 x210002) else (remontoirref05_Right.l2 k x3 x5 x7 (wrap64 (x8 + 1)) (wrap64 (x9 + 1)) x206000 x206001 x206002 x206003 x208000 x208001 x208002 x210000 x210001 x210002)) else (if x7 > 0 then (if x8 > 0 then (some false) else (if x210000 = x208000 then (some false) else (remontoirref05_Right.l1 k x3 (wrap64 (x5 + 1)) x206000 x206001 x206002 x206003 x208000 x208001 x208002))) else (remontoirref05_Right.l1 k x3 (wrap64 (x5 + 1)) x206000 x206001 x206002 x206003 x208000 x208001 x208002))
end
def remontoirref05_Right.f (k : Nat) (a0_0 : Int) (a0_1 : Int) (a0_2 : Int) (l0_3 : List (S63)) : Option (Bool) := if a0_0 < 1 then (remontoirref05_Right.j0 k true a0_0 a0_1 a0_2 l0_3) else (if a0_1 < a0_0 then (remontoirref05_Right.j0 k true a0_0 a0_1 a0_2 l0_3) else (if a0_2 < a0_1 then (remontoirref05_Right.j0 k true a0_0 a0_1 a0_2 l0_3) else (if a0_2 > 200 then (remontoirref05_Right.j0 k true a0_0 a0_1 a0_2 l0_3) else (remontoirref05_Right.j0 k (decide ((l0_3.length : Int) > 4)) a0_0 a0_1 a0_2 l0_3))))
set_option maxHeartbeats 8000000 in
set_option maxRecDepth 100000 in
theorem remontoirref05_Right.calls (k : Nat) (a0_0 : Int) (a0_1 : Int) (a0_2 : Int) (A0_3 : Option Addr) (c0_3 : Nat) (l0_3 : List (S63)) (r : Bool) (w : World) (hr0_3 : Kd.C k63 w A0_3 l0_3.length l0_3) (hc0_3 : l0_3.length ≤ c0_3) (h : remontoirref05_Right.f k a0_0 a0_1 a0_2 l0_3 = some r) :
  Calls Try.prog 37 #[.agg #[.int .i64 a0_0, .int .i64 a0_1, .int .i64 a0_2, .slice A0_3 l0_3.length c0_3]] w fun e w' => e = .returned (.bool r) ∧ Below w.heap.size w w' := by
 have hu41 := Try.underlying41
 have hu63 := Try.underlying63
 have HR0_3 := Aside0.mk hr0_3
 have HC0_3 := Aside0.mk hc0_3
 clear hr0_3 hc0_3
 have HB := Aside0.mk (Below.refl w.heap.size w)
 have H : (if a0_0 < 1 then (remontoirref05_Right.j0 k true a0_0 a0_1 a0_2 l0_3) else (if a0_1 < a0_0 then (remontoirref05_Right.j0 k true a0_0 a0_1 a0_2 l0_3) else (if a0_2 < a0_1 then (remontoirref05_Right.j0 k true a0_0 a0_1 a0_2 l0_3) else (if a0_2 > 200 then (remontoirref05_Right.j0 k true a0_0 a0_1 a0_2 l0_3) else (remontoirref05_Right.j0 k (decide ((l0_3.length : Int) > 4)) a0_0 a0_1 a0_2 l0_3))))) = some r := h
 clear h
 have HC2 := Aside0.mk H
 clear H
 go_enter Try.func37, Try.ntmps37
 go_upto_region 1 with (first | ((with_reducible refine gate_dst (N := 1) rfl ?_); (try (refine gate_guard (by rfl) ?_; dsimp only)); refine box_event ?hg (N := 1) ?hd (cs := #[.int .i64 a0_0, .int .i64 a0_1, .int .i64 a0_2, .slice A0_3 l0_3.length c0_3]) (t := 41) ?hr ?_; (case hd => rfl); (case hg => rfl); (case hr => first | (go_simp; done) | (go_simp; rfl)); intro gb205 hg w3 hbox hb; have n0_ := Aside0.mk (below_step (by repeat (first | (with_reducible first | exact HB.out | apply below_alloc | apply pw_below_drewN | apply below_drew1) | exact HB.out)) hb); have n1_ := Aside0.mk (hbox); have n2_ := Aside0.mk ((by rw [hg]; exact (below_size (by repeat (first | (with_reducible first | exact HB.out | apply below_alloc | apply pw_below_drewN | apply below_drew1) | exact HB.out))) : w.heap.size ≤ gb205)); have n3_ := Aside0.mk ((by rw [hg]; exact (below_size (by repeat (first | (with_reducible first | exact HB.out | apply below_alloc | apply pw_below_drewN | apply below_drew1) | exact HB.out))) : w.heap.size ≤ gb205)); clear HB; have HB := n0_; have BK205 := n1_; have GW205 := n2_; have GE205 := n3_; clear n0_ n1_ n2_ n3_; clear hb hbox hg))
 (try simp only [Act.put, List.setIfInBounds_toArray, List.set_cons_zero, List.set_cons_succ])
 go_cut [37] (fun v37 wc => ∃ (kq : Nat) (x37_1 : Bool), v37 = .bool x37_1 ∧ Aside0 (remontoirref05_Right.j0 kq x37_1 a0_0 a0_1 a0_2 l0_3 = some r) ∧ Aside0 (kq ≤ k) ∧ Aside0 (wc.heap[gb205]? = some (.cells #[.int .i64 a0_0, .int .i64 a0_1, .int .i64 a0_2, (.slice A0_3 l0_3.length c0_3)] 41 (0, 0))) ∧ Aside0 (Below w.heap.size w wc))
 case first =>
  have H := HC2.out
  clear HC2
  by_cases c4 : a0_0 < 1
  ·rw [if_pos c4] at H
   have c4b0 : decide (a0_0 < 1) = true := decide_eq_true c4
   clear c4
   (first | rw [c4b0] | (simp only [i64_w, i32_w]; rw [c4b0]) | skip)
   have H' := Aside0.mk H
   clear H
   have hcz5_0 : w3.cell? ⟨gb205, 0, none⟩ = some (.int .i64 a0_0) := (blk_cell BK205.out 0).trans rfl
   have hcz5_1 : w3.cell? ⟨gb205, 1, none⟩ = some (.int .i64 a0_1) := (blk_cell BK205.out 1).trans rfl
   have hcz5_2 : w3.cell? ⟨gb205, 2, none⟩ = some (.int .i64 a0_2) := (blk_cell BK205.out 2).trans rfl
   have hcz5_3 : w3.cell? ⟨gb205, 3, none⟩ = some (.slice A0_3 l0_3.length c0_3) := (blk_cell BK205.out 3).trans rfl
   have hfz5_0 := blk_frozen BK205.out 0
   have hfz5_1 := blk_frozen BK205.out 1
   have hfz5_2 := blk_frozen BK205.out 2
   have hfz5_3 := blk_frozen BK205.out 3
   go_wp2
   go_meet
   case rel => exact ⟨_, (true), (by first | rfl | (simp; done) | (simp [*]; done)), H', ⟨by first | omega | exact Nat.le_refl _⟩, ⟨by (with_reducible repeat (first | refine blk_drewN ?_ _ | refine blk_drew ?_ | refine blk_alloc ?_ _)); exact BK205.out⟩, ⟨by repeat (first | (with_reducible first | exact HB.out | apply below_alloc | apply pw_below_drewN | apply below_drew1 | refine below_set ?_ GE205.out) | exact HB.out)⟩⟩
  ·rw [if_neg c4] at H
   have c4b0 : decide (a0_0 < 1) = false := decide_eq_false c4
   clear c4
   (first | rw [c4b0] | (simp only [i64_w, i32_w]; rw [c4b0]) | skip)
   by_cases c6 : a0_1 < a0_0
   ·rw [if_pos c6] at H
    have c6b0 : decide (a0_1 < a0_0) = true := decide_eq_true c6
    clear c6
    have H' := Aside0.mk H
    clear H
    have hcz7_0 : w3.cell? ⟨gb205, 0, none⟩ = some (.int .i64 a0_0) := (blk_cell BK205.out 0).trans rfl
    have hcz7_1 : w3.cell? ⟨gb205, 1, none⟩ = some (.int .i64 a0_1) := (blk_cell BK205.out 1).trans rfl
    have hcz7_2 : w3.cell? ⟨gb205, 2, none⟩ = some (.int .i64 a0_2) := (blk_cell BK205.out 2).trans rfl
    have hcz7_3 : w3.cell? ⟨gb205, 3, none⟩ = some (.slice A0_3 l0_3.length c0_3) := (blk_cell BK205.out 3).trans rfl
    have hfz7_0 := blk_frozen BK205.out 0
    have hfz7_1 := blk_frozen BK205.out 1
    have hfz7_2 := blk_frozen BK205.out 2
    have hfz7_3 := blk_frozen BK205.out 3
    go_wp2
    go_meet
    case rel => exact ⟨_, (true), (by first | rfl | (simp; done) | (simp [*]; done)), H', ⟨by first | omega | exact Nat.le_refl _⟩, ⟨by (with_reducible repeat (first | refine blk_drewN ?_ _ | refine blk_drew ?_ | refine blk_alloc ?_ _)); exact BK205.out⟩, ⟨by repeat (first | (with_reducible first | exact HB.out | apply below_alloc | apply pw_below_drewN | apply below_drew1 | refine below_set ?_ GE205.out) | exact HB.out)⟩⟩
   ·rw [if_neg c6] at H
    have c6b0 : decide (a0_1 < a0_0) = false := decide_eq_false c6
    clear c6
    by_cases c8 : a0_2 < a0_1
    ·rw [if_pos c8] at H
     have c8b0 : decide (a0_2 < a0_1) = true := decide_eq_true c8
     clear c8
     have H' := Aside0.mk H
     clear H
     have hcz9_0 : w3.cell? ⟨gb205, 0, none⟩ = some (.int .i64 a0_0) := (blk_cell BK205.out 0).trans rfl
     have hcz9_1 : w3.cell? ⟨gb205, 1, none⟩ = some (.int .i64 a0_1) := (blk_cell BK205.out 1).trans rfl
     have hcz9_2 : w3.cell? ⟨gb205, 2, none⟩ = some (.int .i64 a0_2) := (blk_cell BK205.out 2).trans rfl
     have hcz9_3 : w3.cell? ⟨gb205, 3, none⟩ = some (.slice A0_3 l0_3.length c0_3) := (blk_cell BK205.out 3).trans rfl
     have hfz9_0 := blk_frozen BK205.out 0
     have hfz9_1 := blk_frozen BK205.out 1
     have hfz9_2 := blk_frozen BK205.out 2
     have hfz9_3 := blk_frozen BK205.out 3
     go_wp2
     go_meet
     case rel => exact ⟨_, (true), (by first | rfl | (simp; done) | (simp [*]; done)), H', ⟨by first | omega | exact Nat.le_refl _⟩, ⟨by (with_reducible repeat (first | refine blk_drewN ?_ _ | refine blk_drew ?_ | refine blk_alloc ?_ _)); exact BK205.out⟩, ⟨by repeat (first | (with_reducible first | exact HB.out | apply below_alloc | apply pw_below_drewN | apply below_drew1 | refine below_set ?_ GE205.out) | exact HB.out)⟩⟩
    ·rw [if_neg c8] at H
     have c8b0 : decide (a0_2 < a0_1) = false := decide_eq_false c8
     clear c8
     by_cases c10 : a0_2 > 200
     ·rw [if_pos c10] at H
      have c10b0 : decide (200 < a0_2) = true := decide_eq_true c10
      clear c10
      have H' := Aside0.mk H
      clear H
      have hcz11_0 : w3.cell? ⟨gb205, 0, none⟩ = some (.int .i64 a0_0) := (blk_cell BK205.out 0).trans rfl
      have hcz11_1 : w3.cell? ⟨gb205, 1, none⟩ = some (.int .i64 a0_1) := (blk_cell BK205.out 1).trans rfl
      have hcz11_2 : w3.cell? ⟨gb205, 2, none⟩ = some (.int .i64 a0_2) := (blk_cell BK205.out 2).trans rfl
      have hcz11_3 : w3.cell? ⟨gb205, 3, none⟩ = some (.slice A0_3 l0_3.length c0_3) := (blk_cell BK205.out 3).trans rfl
      have hfz11_0 := blk_frozen BK205.out 0
      have hfz11_1 := blk_frozen BK205.out 1
      have hfz11_2 := blk_frozen BK205.out 2
      have hfz11_3 := blk_frozen BK205.out 3
      go_wp2
      go_meet
      case rel => exact ⟨_, (true), (by first | rfl | (simp; done) | (simp [*]; done)), H', ⟨by first | omega | exact Nat.le_refl _⟩, ⟨by (with_reducible repeat (first | refine blk_drewN ?_ _ | refine blk_drew ?_ | refine blk_alloc ?_ _)); exact BK205.out⟩, ⟨by repeat (first | (with_reducible first | exact HB.out | apply below_alloc | apply pw_below_drewN | apply below_drew1 | refine below_set ?_ GE205.out) | exact HB.out)⟩⟩
     ·rw [if_neg c10] at H
      have c10b0 : decide (200 < a0_2) = false := decide_eq_false c10
      clear c10
      have H' := Aside0.mk H
      clear H
      have hcz12_0 : w3.cell? ⟨gb205, 0, none⟩ = some (.int .i64 a0_0) := (blk_cell BK205.out 0).trans rfl
      have hcz12_1 : w3.cell? ⟨gb205, 1, none⟩ = some (.int .i64 a0_1) := (blk_cell BK205.out 1).trans rfl
      have hcz12_2 : w3.cell? ⟨gb205, 2, none⟩ = some (.int .i64 a0_2) := (blk_cell BK205.out 2).trans rfl
      have hcz12_3 : w3.cell? ⟨gb205, 3, none⟩ = some (.slice A0_3 l0_3.length c0_3) := (blk_cell BK205.out 3).trans rfl
      have hfz12_0 := blk_frozen BK205.out 0
      have hfz12_1 := blk_frozen BK205.out 1
      have hfz12_2 := blk_frozen BK205.out 2
      have hfz12_3 := blk_frozen BK205.out 3
      go_wp2
      go_meet
      case rel => exact ⟨_, (decide ((l0_3.length : Int) > 4)), (by first | rfl | (simp; done) | (simp [*]; done)), H', ⟨by first | omega | exact Nat.le_refl _⟩, ⟨by (with_reducible repeat (first | refine blk_drewN ?_ _ | refine blk_drew ?_ | refine blk_alloc ?_ _)); exact BK205.out⟩, ⟨by repeat (first | (with_reducible first | exact HB.out | apply below_alloc | apply pw_below_drewN | apply below_drew1 | refine below_set ?_ GE205.out) | exact HB.out)⟩⟩
 case rest =>
  clear HC2
  (try clear c1); (try clear p2); (try clear c3); (try clear c4); (try clear c4b0); (try clear c6); (try clear c6b0); (try clear c8); (try clear c8b0); (try clear c10); (try clear c10b0); (try clear hcz11_0); (try clear hcz11_1); (try clear hcz11_2); (try clear hcz11_3); (try clear hcz12_0); (try clear hcz12_1); (try clear hcz12_2); (try clear hcz12_3); (try clear hcz5_0); (try clear hcz5_1); (try clear hcz5_2); (try clear hcz5_3); (try clear hcz7_0); (try clear hcz7_1); (try clear hcz7_2); (try clear hcz7_3); (try clear hcz9_0); (try clear hcz9_1); (try clear hcz9_2); (try clear hcz9_3); (try clear hfz11_0); (try clear hfz11_1); (try clear hfz11_2); (try clear hfz11_3); (try clear hfz12_0); (try clear hfz12_1); (try clear hfz12_2); (try clear hfz12_3); (try clear hfz5_0); (try clear hfz5_1); (try clear hfz5_2); (try clear hfz5_3); (try clear hfz7_0); (try clear hfz7_1); (try clear hfz7_2); (try clear hfz7_3); (try clear hfz9_0); (try clear hfz9_1); (try clear hfz9_2); (try clear hfz9_3)
  obtain ⟨kq, x37_1, rfl, HA, HJ1, BK205, HB⟩ := hcut
  cases kq with
  | zero => exact absurd HA.out (by simp [remontoirref05_Right.j0])
  | succ kj1 =>
   have H := HA.out
   clear HA
   simp only [remontoirref05_Right.j0] at H
   by_cases c13 : x37_1 = true
   ·subst c13
    have H1 : (some false) = some r := by rw [if_pos rfl] at H; exact H
    clear H
    have H := H1
    clear H1
    obtain rfl := Option.some.inj H
    go_wp2
    go_ret
    exact ⟨by first | rfl | (simp [errW_none, errW_some] <;> rfl) | (simp [*, errW_none, errW_some] <;> rfl), by repeat (first | (with_reducible first | exact HB.out | apply below_alloc | apply pw_below_drewN | apply below_drew1 | refine below_set ?_ GE205.out) | exact HB.out)⟩
   ·replace c13 := Bool.eq_false_iff.mpr c13
    subst c13
    have H1 : (remontoirref05_Right.l0 kj1 0 a0_0 a0_1 a0_2 l0_3) = some r := by rw [if_neg (show ¬ (false = true) by decide)] at H; exact H
    clear H
    have H := H1
    clear H1
    have H' := Aside0.mk H
    clear H
    go_wp2
    go_loopg [3] kj1 (fun kq v3 w' => ∃ (x3_2 : Int), v3 = .int .i64 x3_2 ∧ Aside0 (remontoirref05_Right.l0 kq x3_2 a0_0 a0_1 a0_2 l0_3 = some r) ∧ Aside0 (kq ≤ kj1) ∧ Aside0 (w'.heap[gb205]? = some (.cells #[.int .i64 a0_0, .int .i64 a0_1, .int .i64 a0_2, (.slice A0_3 l0_3.length c0_3)] 41 (0, 0))) ∧ Aside0 (Below w.heap.size w w'))
    case atStart => exact ⟨(0), (by first | rfl | (simp; done) | (simp [*]; done)), H', ⟨Nat.le_refl _⟩, ⟨by (with_reducible repeat (first | refine blk_drewN ?_ _ | refine blk_drew ?_ | refine blk_alloc ?_ _)); exact BK205.out⟩, ⟨by repeat (first | (with_reducible first | exact HB.out | apply below_alloc | apply pw_below_drewN | apply below_drew1 | refine below_set ?_ GE205.out) | exact HB.out)⟩⟩
    case round =>
     clear H'
     (try clear c1); (try clear p2); (try clear c3); (try clear c4); (try clear c4b0); (try clear c6); (try clear c6b0); (try clear c8); (try clear c8b0); (try clear c10); (try clear c10b0); (try clear c13); (try clear hcz11_0); (try clear hcz11_1); (try clear hcz11_2); (try clear hcz11_3); (try clear hcz12_0); (try clear hcz12_1); (try clear hcz12_2); (try clear hcz12_3); (try clear hcz5_0); (try clear hcz5_1); (try clear hcz5_2); (try clear hcz5_3); (try clear hcz7_0); (try clear hcz7_1); (try clear hcz7_2); (try clear hcz7_3); (try clear hcz9_0); (try clear hcz9_1); (try clear hcz9_2); (try clear hcz9_3); (try clear hfz11_0); (try clear hfz11_1); (try clear hfz11_2); (try clear hfz11_3); (try clear hfz12_0); (try clear hfz12_1); (try clear hfz12_2); (try clear hfz12_3); (try clear hfz5_0); (try clear hfz5_1); (try clear hfz5_2); (try clear hfz5_3); (try clear hfz7_0); (try clear hfz7_1); (try clear hfz7_2); (try clear hfz7_3); (try clear hfz9_0); (try clear hfz9_1); (try clear hfz9_2); (try clear hfz9_3); (try clear p2)
     obtain ⟨x3_2, rfl, HA, HK2, BK205, HB⟩ := hrel
     cases gk with
     | zero => exact absurd HA.out (by simp [remontoirref05_Right.l0])
     | succ k2 =>
      have H := HA.out
      clear HA
      simp only [remontoirref05_Right.l0] at H
      by_cases c14 : x3_2 < (l0_3.length : Int)
      ·rw [if_pos c14] at H
       have c14b0 : decide (x3_2 < (l0_3.length : Int)) = true := decide_eq_true c14
       clear c14
       by_cases c15 : 0 ≤ x3_2
       ·rw [if_pos c15] at H
        have c15b0 : decide (0 ≤ x3_2) = true := decide_eq_true c15
        clear c15
        have HC16 := Aside0.mk H
        clear H
        have hcz17_0 : wr.cell? ⟨gb205, 0, none⟩ = some (.int .i64 a0_0) := (blk_cell BK205.out 0).trans rfl
        have hcz17_1 : wr.cell? ⟨gb205, 1, none⟩ = some (.int .i64 a0_1) := (blk_cell BK205.out 1).trans rfl
        have hcz17_2 : wr.cell? ⟨gb205, 2, none⟩ = some (.int .i64 a0_2) := (blk_cell BK205.out 2).trans rfl
        have hcz17_3 : wr.cell? ⟨gb205, 3, none⟩ = some (.slice A0_3 l0_3.length c0_3) := (blk_cell BK205.out 3).trans rfl
        have hfz17_0 := blk_frozen BK205.out 0
        have hfz17_1 := blk_frozen BK205.out 1
        have hfz17_2 := blk_frozen BK205.out 2
        have hfz17_3 := blk_frozen BK205.out 3
        have p206 : 0 ≤ (x3_2 : Int) := of_decide_eq_true (by first | (with_reducible assumption) | assumption)
        have q206 : x3_2 < (l0_3.length : Int) := of_decide_eq_true (by first | (with_reducible assumption) | assumption)
        obtain ⟨ad206, e206, hx206_0, hx206_1, hx206_2⟩ := at_T63 HR0_3.out x3_2 p206 q206
        cases e206
        replace hx206_0 := (HB.out.cell (World.block_lt_of_cell? w _ hx206_0)).trans hx206_0
        replace hx206_1 := (HB.out.cell (World.block_lt_of_cell? w _ hx206_1)).trans hx206_1
        replace hx206_2 := (HB.out.cell (World.block_lt_of_cell? w _ hx206_2)).trans hx206_2
        replace p206 := eq_true p206
        replace q206 := eq_true q206
        go_upto_region 7 with (first | ((with_reducible refine gate_dst (N := 4) rfl ?_); (try (refine gate_guard (by rfl) ?_; dsimp only)); refine box_event ?hg (N := 4) ?hd (cs := #[.int .i64 0, .int .i64 0, .int .i64 0]) (t := 63) ?hr ?_; (case hd => rfl); (case hg => rfl); (case hr => first | (go_simp; done) | (go_simp; rfl)); intro gb207 hg w18 hbox hb; have n0_ := Aside0.mk (blk_below (g := gb205) (o := .cells #[.int .i64 a0_0, .int .i64 a0_1, .int .i64 a0_2, .slice (some ad206) l0_3.length c0_3] 41 (0, 0)) (by (with_reducible repeat (first | refine blk_drewN ?_ _ | refine blk_drew ?_ | refine blk_alloc ?_ _)); exact BK205.out) hb); have n1_ := Aside0.mk (below_step (by repeat (first | (with_reducible first | exact HB.out | apply below_alloc | apply pw_below_drewN | apply below_drew1 | refine below_set ?_ GE205.out) | exact HB.out)) hb); have n2_ := Aside0.mk (hbox); have n3_ := Aside0.mk ((by rw [hg]; exact (below_size (by repeat (first | (with_reducible first | exact HB.out | apply below_alloc | apply pw_below_drewN | apply below_drew1 | refine below_set ?_ GE205.out) | exact HB.out))) : w.heap.size ≤ gb207)); have n4_ := Aside0.mk ((by rw [hg]; exact (below_size (by repeat (first | (with_reducible first | exact HB.out | apply below_alloc | apply pw_below_drewN | apply below_drew1 | refine below_set ?_ GE205.out) | exact HB.out))) : w.heap.size ≤ gb207)); have n5_ := Aside0.mk ((by rw [hg]; exact Nat.ne_of_lt (blk_lt (g := gb205) (o := .cells #[.int .i64 a0_0, .int .i64 a0_1, .int .i64 a0_2, .slice (some ad206) l0_3.length c0_3] 41 (0, 0)) (by (with_reducible repeat (first | refine blk_drewN ?_ _ | refine blk_drew ?_ | refine blk_alloc ?_ _)); exact BK205.out)) : gb205 ≠ gb207)); have n6_ := Aside0.mk ((by rw [hg]; exact Nat.ne_of_gt (blk_lt (g := gb205) (o := .cells #[.int .i64 a0_0, .int .i64 a0_1, .int .i64 a0_2, .slice (some ad206) l0_3.length c0_3] 41 (0, 0)) (by (with_reducible repeat (first | refine blk_drewN ?_ _ | refine blk_drew ?_ | refine blk_alloc ?_ _)); exact BK205.out)) : gb207 ≠ gb205)); clear BK205; clear HB; have BK205 := n0_; have HB := n1_; have BK207 := n2_; have GW207 := n3_; have GE207 := n4_; have NB205_207 := n5_; have NB207_205 := n6_; clear n0_ n1_ n2_ n3_ n4_ n5_ n6_; clear hb hbox hg; have hnb19 := NB207_205.out; have hnc19 := NB205_207.out; have hcz20_0 : w18.cell? ⟨gb207, 0, none⟩ = some (.int .i64 0) := (blk_cell BK207.out 0).trans rfl; have hcz20_1 : w18.cell? ⟨gb207, 1, none⟩ = some (.int .i64 0) := (blk_cell BK207.out 1).trans rfl; have hcz20_2 : w18.cell? ⟨gb207, 2, none⟩ = some (.int .i64 0) := (blk_cell BK207.out 2).trans rfl; have hfz20_0 := blk_frozen BK207.out 0; have hfz20_1 := blk_frozen BK207.out 1; have hfz20_2 := blk_frozen BK207.out 2))
        (try simp only [Act.put, List.setIfInBounds_toArray, List.set_cons_zero, List.set_cons_succ])
        go_cut [91] (fun v91 wc => ∃ (kq : Nat) (x91_15 : Bool), v91 = .bool x91_15 ∧ Aside0 (remontoirref05_Right.j2 kq x3_2 x91_15 a0_0 a0_1 a0_2 l0_3 ((rd_T63 l0_3 x3_2).f0) ((rd_T63 l0_3 x3_2).f1) ((rd_T63 l0_3 x3_2).f2) = some r) ∧ Aside0 (kq ≤ k2) ∧ Aside0 (wc.heap[gb205]? = some (.cells #[.int .i64 a0_0, .int .i64 a0_1, .int .i64 a0_2, (.slice (some ad206) l0_3.length c0_3)] 41 (0, 0))) ∧ Aside0 (wc.heap[gb207]? = some (.cells #[.int .i64 ((rd_T63 l0_3 x3_2).f0), .int .i64 ((rd_T63 l0_3 x3_2).f1), .int .i64 ((rd_T63 l0_3 x3_2).f2)] 63 (0, 0))) ∧ Aside0 (Below w.heap.size w wc))
        case first =>
         have H := HC16.out
         clear HC16
         by_cases c21 : ((rd_T63 l0_3 x3_2).f0) < 0
         ·rw [if_pos c21] at H
          have c21b0 : decide (((rd_T63 l0_3 x3_2).f0) < 0) = true := decide_eq_true c21
          clear c21
          (first | rw [c21b0] | (simp only [i64_w, i32_w]; rw [c21b0]) | skip)
          have H' := Aside0.mk H
          clear H
          have hnb22 := NB207_205.out
          have hnc22 := NB205_207.out
          have hcz23_0 : w18.cell? ⟨gb207, 0, none⟩ = some (.int .i64 0) := (blk_cell BK207.out 0).trans rfl
          have hcz23_1 : w18.cell? ⟨gb207, 1, none⟩ = some (.int .i64 0) := (blk_cell BK207.out 1).trans rfl
          have hcz23_2 : w18.cell? ⟨gb207, 2, none⟩ = some (.int .i64 0) := (blk_cell BK207.out 2).trans rfl
          have hfz23_0 := blk_frozen BK207.out 0
          have hfz23_1 := blk_frozen BK207.out 1
          have hfz23_2 := blk_frozen BK207.out 2
          go_wp2
          go_meet
          case rel => exact ⟨_, (true), (by first | rfl | (simp; done) | (simp [*]; done)), H', ⟨by have := HJ1.out; have := HK2.out; first | omega | exact Nat.le_refl _⟩, ⟨by (with_reducible repeat (first | refine blk_drewN ?_ _ | refine blk_drew ?_ | refine blk_alloc ?_ _)); refine blk_far ?_ NB205_207.out _; (with_reducible repeat (first | refine blk_drewN ?_ _ | refine blk_drew ?_ | refine blk_alloc ?_ _)); refine blk_far ?_ NB205_207.out _; (with_reducible repeat (first | refine blk_drewN ?_ _ | refine blk_drew ?_ | refine blk_alloc ?_ _)); refine blk_far ?_ NB205_207.out _; (with_reducible repeat (first | refine blk_drewN ?_ _ | refine blk_drew ?_ | refine blk_alloc ?_ _)); exact BK205.out⟩, ⟨by (with_reducible repeat (first | refine blk_drewN ?_ _ | refine blk_drew ?_ | refine blk_alloc ?_ _)); refine blk_put (cs := #[.int .i64 ((rd_T63 l0_3 x3_2).f0), .int .i64 ((rd_T63 l0_3 x3_2).f1), .int .i64 0]) ?_ 2 _ rfl; (with_reducible repeat (first | refine blk_drewN ?_ _ | refine blk_drew ?_ | refine blk_alloc ?_ _)); refine blk_put (cs := #[.int .i64 ((rd_T63 l0_3 x3_2).f0), .int .i64 0, .int .i64 0]) ?_ 1 _ rfl; (with_reducible repeat (first | refine blk_drewN ?_ _ | refine blk_drew ?_ | refine blk_alloc ?_ _)); refine blk_put (cs := #[.int .i64 0, .int .i64 0, .int .i64 0]) ?_ 0 _ rfl; (with_reducible repeat (first | refine blk_drewN ?_ _ | refine blk_drew ?_ | refine blk_alloc ?_ _)); exact BK207.out⟩, ⟨by repeat (first | (with_reducible first | exact HB.out | apply below_alloc | apply pw_below_drewN | apply below_drew1 | refine below_set ?_ GE205.out | refine below_set ?_ GE207.out) | exact HB.out)⟩⟩
         ·rw [if_neg c21] at H
          have c21b0 : decide (((rd_T63 l0_3 x3_2).f0) < 0) = false := decide_eq_false c21
          clear c21
          (first | rw [c21b0] | (simp only [i64_w, i32_w]; rw [c21b0]) | skip)
          by_cases c24 : ((rd_T63 l0_3 x3_2).f0) > 3
          ·rw [if_pos c24] at H
           have c24b0 : decide (3 < ((rd_T63 l0_3 x3_2).f0)) = true := decide_eq_true c24
           clear c24
           have H' := Aside0.mk H
           clear H
           have hnb25 := NB207_205.out
           have hnc25 := NB205_207.out
           have hcz26_0 : w18.cell? ⟨gb207, 0, none⟩ = some (.int .i64 0) := (blk_cell BK207.out 0).trans rfl
           have hcz26_1 : w18.cell? ⟨gb207, 1, none⟩ = some (.int .i64 0) := (blk_cell BK207.out 1).trans rfl
           have hcz26_2 : w18.cell? ⟨gb207, 2, none⟩ = some (.int .i64 0) := (blk_cell BK207.out 2).trans rfl
           have hfz26_0 := blk_frozen BK207.out 0
           have hfz26_1 := blk_frozen BK207.out 1
           have hfz26_2 := blk_frozen BK207.out 2
           go_wp2
           go_meet
           case rel => exact ⟨_, (true), (by first | rfl | (simp; done) | (simp [*]; done)), H', ⟨by have := HJ1.out; have := HK2.out; first | omega | exact Nat.le_refl _⟩, ⟨by (with_reducible repeat (first | refine blk_drewN ?_ _ | refine blk_drew ?_ | refine blk_alloc ?_ _)); refine blk_far ?_ NB205_207.out _; (with_reducible repeat (first | refine blk_drewN ?_ _ | refine blk_drew ?_ | refine blk_alloc ?_ _)); refine blk_far ?_ NB205_207.out _; (with_reducible repeat (first | refine blk_drewN ?_ _ | refine blk_drew ?_ | refine blk_alloc ?_ _)); refine blk_far ?_ NB205_207.out _; (with_reducible repeat (first | refine blk_drewN ?_ _ | refine blk_drew ?_ | refine blk_alloc ?_ _)); exact BK205.out⟩, ⟨by (with_reducible repeat (first | refine blk_drewN ?_ _ | refine blk_drew ?_ | refine blk_alloc ?_ _)); refine blk_put (cs := #[.int .i64 ((rd_T63 l0_3 x3_2).f0), .int .i64 ((rd_T63 l0_3 x3_2).f1), .int .i64 0]) ?_ 2 _ rfl; (with_reducible repeat (first | refine blk_drewN ?_ _ | refine blk_drew ?_ | refine blk_alloc ?_ _)); refine blk_put (cs := #[.int .i64 ((rd_T63 l0_3 x3_2).f0), .int .i64 0, .int .i64 0]) ?_ 1 _ rfl; (with_reducible repeat (first | refine blk_drewN ?_ _ | refine blk_drew ?_ | refine blk_alloc ?_ _)); refine blk_put (cs := #[.int .i64 0, .int .i64 0, .int .i64 0]) ?_ 0 _ rfl; (with_reducible repeat (first | refine blk_drewN ?_ _ | refine blk_drew ?_ | refine blk_alloc ?_ _)); exact BK207.out⟩, ⟨by repeat (first | (with_reducible first | exact HB.out | apply below_alloc | apply pw_below_drewN | apply below_drew1 | refine below_set ?_ GE205.out | refine below_set ?_ GE207.out) | exact HB.out)⟩⟩
          ·rw [if_neg c24] at H
           have c24b0 : decide (3 < ((rd_T63 l0_3 x3_2).f0)) = false := decide_eq_false c24
           clear c24
           by_cases c27 : ((rd_T63 l0_3 x3_2).f1) < 0
           ·rw [if_pos c27] at H
            have c27b0 : decide (((rd_T63 l0_3 x3_2).f1) < 0) = true := decide_eq_true c27
            clear c27
            have H' := Aside0.mk H
            clear H
            have hnb28 := NB207_205.out
            have hnc28 := NB205_207.out
            have hcz29_0 : w18.cell? ⟨gb207, 0, none⟩ = some (.int .i64 0) := (blk_cell BK207.out 0).trans rfl
            have hcz29_1 : w18.cell? ⟨gb207, 1, none⟩ = some (.int .i64 0) := (blk_cell BK207.out 1).trans rfl
            have hcz29_2 : w18.cell? ⟨gb207, 2, none⟩ = some (.int .i64 0) := (blk_cell BK207.out 2).trans rfl
            have hfz29_0 := blk_frozen BK207.out 0
            have hfz29_1 := blk_frozen BK207.out 1
            have hfz29_2 := blk_frozen BK207.out 2
            go_wp2
            go_meet
            case rel => exact ⟨_, (true), (by first | rfl | (simp; done) | (simp [*]; done)), H', ⟨by have := HJ1.out; have := HK2.out; first | omega | exact Nat.le_refl _⟩, ⟨by (with_reducible repeat (first | refine blk_drewN ?_ _ | refine blk_drew ?_ | refine blk_alloc ?_ _)); refine blk_far ?_ NB205_207.out _; (with_reducible repeat (first | refine blk_drewN ?_ _ | refine blk_drew ?_ | refine blk_alloc ?_ _)); refine blk_far ?_ NB205_207.out _; (with_reducible repeat (first | refine blk_drewN ?_ _ | refine blk_drew ?_ | refine blk_alloc ?_ _)); refine blk_far ?_ NB205_207.out _; (with_reducible repeat (first | refine blk_drewN ?_ _ | refine blk_drew ?_ | refine blk_alloc ?_ _)); exact BK205.out⟩, ⟨by (with_reducible repeat (first | refine blk_drewN ?_ _ | refine blk_drew ?_ | refine blk_alloc ?_ _)); refine blk_put (cs := #[.int .i64 ((rd_T63 l0_3 x3_2).f0), .int .i64 ((rd_T63 l0_3 x3_2).f1), .int .i64 0]) ?_ 2 _ rfl; (with_reducible repeat (first | refine blk_drewN ?_ _ | refine blk_drew ?_ | refine blk_alloc ?_ _)); refine blk_put (cs := #[.int .i64 ((rd_T63 l0_3 x3_2).f0), .int .i64 0, .int .i64 0]) ?_ 1 _ rfl; (with_reducible repeat (first | refine blk_drewN ?_ _ | refine blk_drew ?_ | refine blk_alloc ?_ _)); refine blk_put (cs := #[.int .i64 0, .int .i64 0, .int .i64 0]) ?_ 0 _ rfl; (with_reducible repeat (first | refine blk_drewN ?_ _ | refine blk_drew ?_ | refine blk_alloc ?_ _)); exact BK207.out⟩, ⟨by repeat (first | (with_reducible first | exact HB.out | apply below_alloc | apply pw_below_drewN | apply below_drew1 | refine below_set ?_ GE205.out | refine below_set ?_ GE207.out) | exact HB.out)⟩⟩
           ·rw [if_neg c27] at H
            have c27b0 : decide (((rd_T63 l0_3 x3_2).f1) < 0) = false := decide_eq_false c27
            clear c27
            by_cases c30 : ((rd_T63 l0_3 x3_2).f2) < 1
            ·rw [if_pos c30] at H
             have c30b0 : decide (((rd_T63 l0_3 x3_2).f2) < 1) = true := decide_eq_true c30
             clear c30
             have H' := Aside0.mk H
             clear H
             have hnb31 := NB207_205.out
             have hnc31 := NB205_207.out
             have hcz32_0 : w18.cell? ⟨gb207, 0, none⟩ = some (.int .i64 0) := (blk_cell BK207.out 0).trans rfl
             have hcz32_1 : w18.cell? ⟨gb207, 1, none⟩ = some (.int .i64 0) := (blk_cell BK207.out 1).trans rfl
             have hcz32_2 : w18.cell? ⟨gb207, 2, none⟩ = some (.int .i64 0) := (blk_cell BK207.out 2).trans rfl
             have hfz32_0 := blk_frozen BK207.out 0
             have hfz32_1 := blk_frozen BK207.out 1
             have hfz32_2 := blk_frozen BK207.out 2
             go_wp2
             go_meet
             case rel => exact ⟨_, (true), (by first | rfl | (simp; done) | (simp [*]; done)), H', ⟨by have := HJ1.out; have := HK2.out; first | omega | exact Nat.le_refl _⟩, ⟨by (with_reducible repeat (first | refine blk_drewN ?_ _ | refine blk_drew ?_ | refine blk_alloc ?_ _)); refine blk_far ?_ NB205_207.out _; (with_reducible repeat (first | refine blk_drewN ?_ _ | refine blk_drew ?_ | refine blk_alloc ?_ _)); refine blk_far ?_ NB205_207.out _; (with_reducible repeat (first | refine blk_drewN ?_ _ | refine blk_drew ?_ | refine blk_alloc ?_ _)); refine blk_far ?_ NB205_207.out _; (with_reducible repeat (first | refine blk_drewN ?_ _ | refine blk_drew ?_ | refine blk_alloc ?_ _)); exact BK205.out⟩, ⟨by (with_reducible repeat (first | refine blk_drewN ?_ _ | refine blk_drew ?_ | refine blk_alloc ?_ _)); refine blk_put (cs := #[.int .i64 ((rd_T63 l0_3 x3_2).f0), .int .i64 ((rd_T63 l0_3 x3_2).f1), .int .i64 0]) ?_ 2 _ rfl; (with_reducible repeat (first | refine blk_drewN ?_ _ | refine blk_drew ?_ | refine blk_alloc ?_ _)); refine blk_put (cs := #[.int .i64 ((rd_T63 l0_3 x3_2).f0), .int .i64 0, .int .i64 0]) ?_ 1 _ rfl; (with_reducible repeat (first | refine blk_drewN ?_ _ | refine blk_drew ?_ | refine blk_alloc ?_ _)); refine blk_put (cs := #[.int .i64 0, .int .i64 0, .int .i64 0]) ?_ 0 _ rfl; (with_reducible repeat (first | refine blk_drewN ?_ _ | refine blk_drew ?_ | refine blk_alloc ?_ _)); exact BK207.out⟩, ⟨by repeat (first | (with_reducible first | exact HB.out | apply below_alloc | apply pw_below_drewN | apply below_drew1 | refine below_set ?_ GE205.out | refine below_set ?_ GE207.out) | exact HB.out)⟩⟩
            ·rw [if_neg c30] at H
             have c30b0 : decide (((rd_T63 l0_3 x3_2).f2) < 1) = false := decide_eq_false c30
             clear c30
             by_cases c33 : ((rd_T63 l0_3 x3_2).f1) > a0_0
             ·rw [if_pos c33] at H
              have c33b0 : decide (a0_0 < ((rd_T63 l0_3 x3_2).f1)) = true := decide_eq_true c33
              clear c33
              have H' := Aside0.mk H
              clear H
              have hnb34 := NB207_205.out
              have hnc34 := NB205_207.out
              have hcz35_0 : w18.cell? ⟨gb207, 0, none⟩ = some (.int .i64 0) := (blk_cell BK207.out 0).trans rfl
              have hcz35_1 : w18.cell? ⟨gb207, 1, none⟩ = some (.int .i64 0) := (blk_cell BK207.out 1).trans rfl
              have hcz35_2 : w18.cell? ⟨gb207, 2, none⟩ = some (.int .i64 0) := (blk_cell BK207.out 2).trans rfl
              have hfz35_0 := blk_frozen BK207.out 0
              have hfz35_1 := blk_frozen BK207.out 1
              have hfz35_2 := blk_frozen BK207.out 2
              have hcz36_0 : w18.cell? ⟨gb205, 0, none⟩ = some (.int .i64 a0_0) := (blk_cell BK205.out 0).trans rfl
              have hcz36_1 : w18.cell? ⟨gb205, 1, none⟩ = some (.int .i64 a0_1) := (blk_cell BK205.out 1).trans rfl
              have hcz36_2 : w18.cell? ⟨gb205, 2, none⟩ = some (.int .i64 a0_2) := (blk_cell BK205.out 2).trans rfl
              have hcz36_3 : w18.cell? ⟨gb205, 3, none⟩ = some (.slice (some ad206) l0_3.length c0_3) := (blk_cell BK205.out 3).trans rfl
              have hfz36_0 := blk_frozen BK205.out 0
              have hfz36_1 := blk_frozen BK205.out 1
              have hfz36_2 := blk_frozen BK205.out 2
              have hfz36_3 := blk_frozen BK205.out 3
              go_wp2
              go_meet
              case rel => exact ⟨_, (true), (by first | rfl | (simp; done) | (simp [*]; done)), H', ⟨by have := HJ1.out; have := HK2.out; first | omega | exact Nat.le_refl _⟩, ⟨by (with_reducible repeat (first | refine blk_drewN ?_ _ | refine blk_drew ?_ | refine blk_alloc ?_ _)); refine blk_far ?_ NB205_207.out _; (with_reducible repeat (first | refine blk_drewN ?_ _ | refine blk_drew ?_ | refine blk_alloc ?_ _)); refine blk_far ?_ NB205_207.out _; (with_reducible repeat (first | refine blk_drewN ?_ _ | refine blk_drew ?_ | refine blk_alloc ?_ _)); refine blk_far ?_ NB205_207.out _; (with_reducible repeat (first | refine blk_drewN ?_ _ | refine blk_drew ?_ | refine blk_alloc ?_ _)); exact BK205.out⟩, ⟨by (with_reducible repeat (first | refine blk_drewN ?_ _ | refine blk_drew ?_ | refine blk_alloc ?_ _)); refine blk_put (cs := #[.int .i64 ((rd_T63 l0_3 x3_2).f0), .int .i64 ((rd_T63 l0_3 x3_2).f1), .int .i64 0]) ?_ 2 _ rfl; (with_reducible repeat (first | refine blk_drewN ?_ _ | refine blk_drew ?_ | refine blk_alloc ?_ _)); refine blk_put (cs := #[.int .i64 ((rd_T63 l0_3 x3_2).f0), .int .i64 0, .int .i64 0]) ?_ 1 _ rfl; (with_reducible repeat (first | refine blk_drewN ?_ _ | refine blk_drew ?_ | refine blk_alloc ?_ _)); refine blk_put (cs := #[.int .i64 0, .int .i64 0, .int .i64 0]) ?_ 0 _ rfl; (with_reducible repeat (first | refine blk_drewN ?_ _ | refine blk_drew ?_ | refine blk_alloc ?_ _)); exact BK207.out⟩, ⟨by repeat (first | (with_reducible first | exact HB.out | apply below_alloc | apply pw_below_drewN | apply below_drew1 | refine below_set ?_ GE205.out | refine below_set ?_ GE207.out) | exact HB.out)⟩⟩
             ·rw [if_neg c33] at H
              have c33b0 : decide (a0_0 < ((rd_T63 l0_3 x3_2).f1)) = false := decide_eq_false c33
              clear c33
              by_cases c37 : ((rd_T63 l0_3 x3_2).f2) > a0_0
              ·rw [if_pos c37] at H
               have c37b0 : decide (a0_0 < ((rd_T63 l0_3 x3_2).f2)) = true := decide_eq_true c37
               clear c37
               have H' := Aside0.mk H
               clear H
               have hnb38 := NB207_205.out
               have hnc38 := NB205_207.out
               have hcz39_0 : w18.cell? ⟨gb207, 0, none⟩ = some (.int .i64 0) := (blk_cell BK207.out 0).trans rfl
               have hcz39_1 : w18.cell? ⟨gb207, 1, none⟩ = some (.int .i64 0) := (blk_cell BK207.out 1).trans rfl
               have hcz39_2 : w18.cell? ⟨gb207, 2, none⟩ = some (.int .i64 0) := (blk_cell BK207.out 2).trans rfl
               have hfz39_0 := blk_frozen BK207.out 0
               have hfz39_1 := blk_frozen BK207.out 1
               have hfz39_2 := blk_frozen BK207.out 2
               have hcz40_0 : w18.cell? ⟨gb205, 0, none⟩ = some (.int .i64 a0_0) := (blk_cell BK205.out 0).trans rfl
               have hcz40_1 : w18.cell? ⟨gb205, 1, none⟩ = some (.int .i64 a0_1) := (blk_cell BK205.out 1).trans rfl
               have hcz40_2 : w18.cell? ⟨gb205, 2, none⟩ = some (.int .i64 a0_2) := (blk_cell BK205.out 2).trans rfl
               have hcz40_3 : w18.cell? ⟨gb205, 3, none⟩ = some (.slice (some ad206) l0_3.length c0_3) := (blk_cell BK205.out 3).trans rfl
               have hfz40_0 := blk_frozen BK205.out 0
               have hfz40_1 := blk_frozen BK205.out 1
               have hfz40_2 := blk_frozen BK205.out 2
               have hfz40_3 := blk_frozen BK205.out 3
               go_wp2
               go_meet
               case rel => exact ⟨_, (true), (by first | rfl | (simp; done) | (simp [*]; done)), H', ⟨by have := HJ1.out; have := HK2.out; first | omega | exact Nat.le_refl _⟩, ⟨by (with_reducible repeat (first | refine blk_drewN ?_ _ | refine blk_drew ?_ | refine blk_alloc ?_ _)); refine blk_far ?_ NB205_207.out _; (with_reducible repeat (first | refine blk_drewN ?_ _ | refine blk_drew ?_ | refine blk_alloc ?_ _)); refine blk_far ?_ NB205_207.out _; (with_reducible repeat (first | refine blk_drewN ?_ _ | refine blk_drew ?_ | refine blk_alloc ?_ _)); refine blk_far ?_ NB205_207.out _; (with_reducible repeat (first | refine blk_drewN ?_ _ | refine blk_drew ?_ | refine blk_alloc ?_ _)); exact BK205.out⟩, ⟨by (with_reducible repeat (first | refine blk_drewN ?_ _ | refine blk_drew ?_ | refine blk_alloc ?_ _)); refine blk_put (cs := #[.int .i64 ((rd_T63 l0_3 x3_2).f0), .int .i64 ((rd_T63 l0_3 x3_2).f1), .int .i64 0]) ?_ 2 _ rfl; (with_reducible repeat (first | refine blk_drewN ?_ _ | refine blk_drew ?_ | refine blk_alloc ?_ _)); refine blk_put (cs := #[.int .i64 ((rd_T63 l0_3 x3_2).f0), .int .i64 0, .int .i64 0]) ?_ 1 _ rfl; (with_reducible repeat (first | refine blk_drewN ?_ _ | refine blk_drew ?_ | refine blk_alloc ?_ _)); refine blk_put (cs := #[.int .i64 0, .int .i64 0, .int .i64 0]) ?_ 0 _ rfl; (with_reducible repeat (first | refine blk_drewN ?_ _ | refine blk_drew ?_ | refine blk_alloc ?_ _)); exact BK207.out⟩, ⟨by repeat (first | (with_reducible first | exact HB.out | apply below_alloc | apply pw_below_drewN | apply below_drew1 | refine below_set ?_ GE205.out | refine below_set ?_ GE207.out) | exact HB.out)⟩⟩
              ·rw [if_neg c37] at H
               have c37b0 : decide (a0_0 < ((rd_T63 l0_3 x3_2).f2)) = false := decide_eq_false c37
               clear c37
               have H' := Aside0.mk H
               clear H
               have hnb41 := NB207_205.out
               have hnc41 := NB205_207.out
               have hcz42_0 : w18.cell? ⟨gb207, 0, none⟩ = some (.int .i64 0) := (blk_cell BK207.out 0).trans rfl
               have hcz42_1 : w18.cell? ⟨gb207, 1, none⟩ = some (.int .i64 0) := (blk_cell BK207.out 1).trans rfl
               have hcz42_2 : w18.cell? ⟨gb207, 2, none⟩ = some (.int .i64 0) := (blk_cell BK207.out 2).trans rfl
               have hfz42_0 := blk_frozen BK207.out 0
               have hfz42_1 := blk_frozen BK207.out 1
               have hfz42_2 := blk_frozen BK207.out 2
               have hcz43_0 : w18.cell? ⟨gb205, 0, none⟩ = some (.int .i64 a0_0) := (blk_cell BK205.out 0).trans rfl
               have hcz43_1 : w18.cell? ⟨gb205, 1, none⟩ = some (.int .i64 a0_1) := (blk_cell BK205.out 1).trans rfl
               have hcz43_2 : w18.cell? ⟨gb205, 2, none⟩ = some (.int .i64 a0_2) := (blk_cell BK205.out 2).trans rfl
               have hcz43_3 : w18.cell? ⟨gb205, 3, none⟩ = some (.slice (some ad206) l0_3.length c0_3) := (blk_cell BK205.out 3).trans rfl
               have hfz43_0 := blk_frozen BK205.out 0
               have hfz43_1 := blk_frozen BK205.out 1
               have hfz43_2 := blk_frozen BK205.out 2
               have hfz43_3 := blk_frozen BK205.out 3
               go_wp2
               go_meet
               case rel => exact ⟨_, (decide ((wrap64 (((rd_T63 l0_3 x3_2).f1) + ((rd_T63 l0_3 x3_2).f2))) > a0_0)), (by first | rfl | (simp; done) | (simp [*]; done)), H', ⟨by have := HJ1.out; have := HK2.out; first | omega | exact Nat.le_refl _⟩, ⟨by (with_reducible repeat (first | refine blk_drewN ?_ _ | refine blk_drew ?_ | refine blk_alloc ?_ _)); refine blk_far ?_ NB205_207.out _; (with_reducible repeat (first | refine blk_drewN ?_ _ | refine blk_drew ?_ | refine blk_alloc ?_ _)); refine blk_far ?_ NB205_207.out _; (with_reducible repeat (first | refine blk_drewN ?_ _ | refine blk_drew ?_ | refine blk_alloc ?_ _)); refine blk_far ?_ NB205_207.out _; (with_reducible repeat (first | refine blk_drewN ?_ _ | refine blk_drew ?_ | refine blk_alloc ?_ _)); exact BK205.out⟩, ⟨by (with_reducible repeat (first | refine blk_drewN ?_ _ | refine blk_drew ?_ | refine blk_alloc ?_ _)); refine blk_put (cs := #[.int .i64 ((rd_T63 l0_3 x3_2).f0), .int .i64 ((rd_T63 l0_3 x3_2).f1), .int .i64 0]) ?_ 2 _ rfl; (with_reducible repeat (first | refine blk_drewN ?_ _ | refine blk_drew ?_ | refine blk_alloc ?_ _)); refine blk_put (cs := #[.int .i64 ((rd_T63 l0_3 x3_2).f0), .int .i64 0, .int .i64 0]) ?_ 1 _ rfl; (with_reducible repeat (first | refine blk_drewN ?_ _ | refine blk_drew ?_ | refine blk_alloc ?_ _)); refine blk_put (cs := #[.int .i64 0, .int .i64 0, .int .i64 0]) ?_ 0 _ rfl; (with_reducible repeat (first | refine blk_drewN ?_ _ | refine blk_drew ?_ | refine blk_alloc ?_ _)); exact BK207.out⟩, ⟨by repeat (first | (with_reducible first | exact HB.out | apply below_alloc | apply pw_below_drewN | apply below_drew1 | refine below_set ?_ GE205.out | refine below_set ?_ GE207.out) | exact HB.out)⟩⟩
        case rest =>
         clear HC16
         (try clear c1); (try clear c2); (try clear p2); (try clear q2); (try clear hx2); (try clear c3); (try clear c4); (try clear c4b0); (try clear c6); (try clear c6b0); (try clear p6); (try clear c8); (try clear c8b0); (try clear c10); (try clear c10b0); (try clear c13); (try clear c14); (try clear c14b0); (try clear c15); (try clear c15b0); (try clear c19); (try clear p20); (try clear q20); (try clear hx20); (try clear c21); (try clear c21b0); (try clear c22); (try clear c24); (try clear c24b0); (try clear c25); (try clear c27); (try clear c27b0); (try clear c28); (try clear c30); (try clear c30b0); (try clear c31); (try clear c33); (try clear c33b0); (try clear c34); (try clear c37); (try clear c37b0); (try clear c38); (try clear c41); (try clear hcz11_0); (try clear hcz11_1); (try clear hcz11_2); (try clear hcz11_3); (try clear hcz12_0); (try clear hcz12_1); (try clear hcz12_2); (try clear hcz12_3); (try clear hcz17_0); (try clear hcz17_1); (try clear hcz17_2); (try clear hcz17_3); (try clear hcz20_0); (try clear hcz20_1); (try clear hcz20_2); (try clear hcz23_0); (try clear hcz23_1); (try clear hcz23_2); (try clear hcz26_0); (try clear hcz26_1); (try clear hcz26_2); (try clear hcz29_0); (try clear hcz29_1); (try clear hcz29_2); (try clear hcz32_0); (try clear hcz32_1); (try clear hcz32_2); (try clear hcz35_0); (try clear hcz35_1); (try clear hcz35_2); (try clear hcz36_0); (try clear hcz36_1); (try clear hcz36_2); (try clear hcz36_3); (try clear hcz39_0); (try clear hcz39_1); (try clear hcz39_2); (try clear hcz40_0); (try clear hcz40_1); (try clear hcz40_2); (try clear hcz40_3); (try clear hcz42_0); (try clear hcz42_1); (try clear hcz42_2); (try clear hcz43_0); (try clear hcz43_1); (try clear hcz43_2); (try clear hcz43_3); (try clear hcz5_0); (try clear hcz5_1); (try clear hcz5_2); (try clear hcz5_3); (try clear hcz7_0); (try clear hcz7_1); (try clear hcz7_2); (try clear hcz7_3); (try clear hcz9_0); (try clear hcz9_1); (try clear hcz9_2); (try clear hcz9_3); (try clear hfz11_0); (try clear hfz11_1); (try clear hfz11_2); (try clear hfz11_3); (try clear hfz12_0); (try clear hfz12_1); (try clear hfz12_2); (try clear hfz12_3); (try clear hfz17_0); (try clear hfz17_1); (try clear hfz17_2); (try clear hfz17_3); (try clear hfz20_0); (try clear hfz20_1); (try clear hfz20_2); (try clear hfz23_0); (try clear hfz23_1); (try clear hfz23_2); (try clear hfz26_0); (try clear hfz26_1); (try clear hfz26_2); (try clear hfz29_0); (try clear hfz29_1); (try clear hfz29_2); (try clear hfz32_0); (try clear hfz32_1); (try clear hfz32_2); (try clear hfz35_0); (try clear hfz35_1); (try clear hfz35_2); (try clear hfz36_0); (try clear hfz36_1); (try clear hfz36_2); (try clear hfz36_3); (try clear hfz39_0); (try clear hfz39_1); (try clear hfz39_2); (try clear hfz40_0); (try clear hfz40_1); (try clear hfz40_2); (try clear hfz40_3); (try clear hfz42_0); (try clear hfz42_1); (try clear hfz42_2); (try clear hfz43_0); (try clear hfz43_1); (try clear hfz43_2); (try clear hfz43_3); (try clear hfz5_0); (try clear hfz5_1); (try clear hfz5_2); (try clear hfz5_3); (try clear hfz7_0); (try clear hfz7_1); (try clear hfz7_2); (try clear hfz7_3); (try clear hfz9_0); (try clear hfz9_1); (try clear hfz9_2); (try clear hfz9_3); (try clear hx206_0); (try clear hx206_1); (try clear hx206_2); (try clear p2); (try clear p206); (try clear q206)
         obtain ⟨kq, x91_15, rfl, HA, HJ15, BK205, BK207, HB⟩ := hcut
         cases kq with
         | zero => exact absurd HA.out (by simp [remontoirref05_Right.j2])
         | succ kj15 =>
          have H := HA.out
          clear HA
          simp only [remontoirref05_Right.j2] at H
          by_cases c44 : x91_15 = true
          ·subst c44
           have H1 : (some false) = some r := by rw [if_pos rfl] at H; exact H
           clear H
           have H := H1
           clear H1
           obtain rfl := Option.some.inj H
           go_wp2
           go_ret
           exact ⟨by first | rfl | (simp [errW_none, errW_some] <;> rfl) | (simp [*, errW_none, errW_some] <;> rfl), by repeat (first | (with_reducible first | exact HB.out | apply below_alloc | apply pw_below_drewN | apply below_drew1 | refine below_set ?_ GE205.out | refine below_set ?_ GE207.out) | exact HB.out)⟩
          ·replace c44 := Bool.eq_false_iff.mpr c44
           subst c44
           have H1 : (remontoirref05_Right.l1 kj15 x3_2 0 a0_0 a0_1 a0_2 l0_3 ((rd_T63 l0_3 x3_2).f0) ((rd_T63 l0_3 x3_2).f1) ((rd_T63 l0_3 x3_2).f2)) = some r := by rw [if_neg (show ¬ (false = true) by decide)] at H; exact H
           clear H
           have H := H1
           clear H1
           have H' := Aside0.mk H
           clear H
           go_wp2
           go_loopg [5] kj15 (fun kq v5 w' => ∃ (x5_4 : Int), v5 = .int .i64 x5_4 ∧ Aside0 (remontoirref05_Right.l1 kq x3_2 x5_4 a0_0 a0_1 a0_2 l0_3 ((rd_T63 l0_3 x3_2).f0) ((rd_T63 l0_3 x3_2).f1) ((rd_T63 l0_3 x3_2).f2) = some r) ∧ Aside0 (kq ≤ kj15) ∧ Aside0 (w'.heap[gb205]? = some (.cells #[.int .i64 a0_0, .int .i64 a0_1, .int .i64 a0_2, (.slice (some ad206) l0_3.length c0_3)] 41 (0, 0))) ∧ Aside0 (w'.heap[gb207]? = some (.cells #[.int .i64 ((rd_T63 l0_3 x3_2).f0), .int .i64 ((rd_T63 l0_3 x3_2).f1), .int .i64 ((rd_T63 l0_3 x3_2).f2)] 63 (0, 0))) ∧ Aside0 (Below w.heap.size w w'))
           case atStart => exact ⟨(0), (by first | rfl | (simp; done) | (simp [*]; done)), H', ⟨Nat.le_refl _⟩, ⟨by (with_reducible repeat (first | refine blk_drewN ?_ _ | refine blk_drew ?_ | refine blk_alloc ?_ _)); exact BK205.out⟩, ⟨by (with_reducible repeat (first | refine blk_drewN ?_ _ | refine blk_drew ?_ | refine blk_alloc ?_ _)); exact BK207.out⟩, ⟨by repeat (first | (with_reducible first | exact HB.out | apply below_alloc | apply pw_below_drewN | apply below_drew1 | refine below_set ?_ GE205.out | refine below_set ?_ GE207.out) | exact HB.out)⟩⟩
           case round =>
            clear H'
            (try clear c1); (try clear c2); (try clear p2); (try clear q2); (try clear hx2); (try clear c3); (try clear c4); (try clear c4b0); (try clear c6); (try clear c6b0); (try clear p6); (try clear c8); (try clear c8b0); (try clear c10); (try clear c10b0); (try clear c13); (try clear c14); (try clear c14b0); (try clear c15); (try clear c15b0); (try clear c19); (try clear p20); (try clear q20); (try clear hx20); (try clear c21); (try clear c21b0); (try clear c22); (try clear c24); (try clear c24b0); (try clear c25); (try clear c27); (try clear c27b0); (try clear c28); (try clear c30); (try clear c30b0); (try clear c31); (try clear c33); (try clear c33b0); (try clear c34); (try clear c37); (try clear c37b0); (try clear c38); (try clear c41); (try clear c44); (try clear hcz11_0); (try clear hcz11_1); (try clear hcz11_2); (try clear hcz11_3); (try clear hcz12_0); (try clear hcz12_1); (try clear hcz12_2); (try clear hcz12_3); (try clear hcz17_0); (try clear hcz17_1); (try clear hcz17_2); (try clear hcz17_3); (try clear hcz20_0); (try clear hcz20_1); (try clear hcz20_2); (try clear hcz23_0); (try clear hcz23_1); (try clear hcz23_2); (try clear hcz26_0); (try clear hcz26_1); (try clear hcz26_2); (try clear hcz29_0); (try clear hcz29_1); (try clear hcz29_2); (try clear hcz32_0); (try clear hcz32_1); (try clear hcz32_2); (try clear hcz35_0); (try clear hcz35_1); (try clear hcz35_2); (try clear hcz36_0); (try clear hcz36_1); (try clear hcz36_2); (try clear hcz36_3); (try clear hcz39_0); (try clear hcz39_1); (try clear hcz39_2); (try clear hcz40_0); (try clear hcz40_1); (try clear hcz40_2); (try clear hcz40_3); (try clear hcz42_0); (try clear hcz42_1); (try clear hcz42_2); (try clear hcz43_0); (try clear hcz43_1); (try clear hcz43_2); (try clear hcz43_3); (try clear hcz5_0); (try clear hcz5_1); (try clear hcz5_2); (try clear hcz5_3); (try clear hcz7_0); (try clear hcz7_1); (try clear hcz7_2); (try clear hcz7_3); (try clear hcz9_0); (try clear hcz9_1); (try clear hcz9_2); (try clear hcz9_3); (try clear hfz11_0); (try clear hfz11_1); (try clear hfz11_2); (try clear hfz11_3); (try clear hfz12_0); (try clear hfz12_1); (try clear hfz12_2); (try clear hfz12_3); (try clear hfz17_0); (try clear hfz17_1); (try clear hfz17_2); (try clear hfz17_3); (try clear hfz20_0); (try clear hfz20_1); (try clear hfz20_2); (try clear hfz23_0); (try clear hfz23_1); (try clear hfz23_2); (try clear hfz26_0); (try clear hfz26_1); (try clear hfz26_2); (try clear hfz29_0); (try clear hfz29_1); (try clear hfz29_2); (try clear hfz32_0); (try clear hfz32_1); (try clear hfz32_2); (try clear hfz35_0); (try clear hfz35_1); (try clear hfz35_2); (try clear hfz36_0); (try clear hfz36_1); (try clear hfz36_2); (try clear hfz36_3); (try clear hfz39_0); (try clear hfz39_1); (try clear hfz39_2); (try clear hfz40_0); (try clear hfz40_1); (try clear hfz40_2); (try clear hfz40_3); (try clear hfz42_0); (try clear hfz42_1); (try clear hfz42_2); (try clear hfz43_0); (try clear hfz43_1); (try clear hfz43_2); (try clear hfz43_3); (try clear hfz5_0); (try clear hfz5_1); (try clear hfz5_2); (try clear hfz5_3); (try clear hfz7_0); (try clear hfz7_1); (try clear hfz7_2); (try clear hfz7_3); (try clear hfz9_0); (try clear hfz9_1); (try clear hfz9_2); (try clear hfz9_3); (try clear hx206_0); (try clear hx206_1); (try clear hx206_2); (try clear p2); (try clear p20); (try clear p206); (try clear p6); (try clear q2); (try clear q20); (try clear q206)
            obtain ⟨x5_4, rfl, HA, HK4, BK205, BK207, HB⟩ := hrel
            cases gk with
            | zero => exact absurd HA.out (by simp [remontoirref05_Right.l1])
            | succ k4 =>
             have H := HA.out
             clear HA
             simp only [remontoirref05_Right.l1] at H
             by_cases c45 : x5_4 < x3_2
             ·rw [if_pos c45] at H
              have c45b0 : decide (x5_4 < x3_2) = true := decide_eq_true c45
              clear c45
              by_cases c46 : 0 ≤ x5_4
              ·rw [if_pos c46] at H
               have c46b0 : decide (0 ≤ x5_4) = true := decide_eq_true c46
               clear c46
               by_cases c47 : x5_4 < (l0_3.length : Int)
               ·rw [if_pos c47] at H
                have c47b0 : decide (x5_4 < (l0_3.length : Int)) = true := decide_eq_true c47
                clear c47
                have HC48 := Aside0.mk H
                clear H
                have hnb49 := NB205_207.out
                have hnc49 := NB207_205.out
                have hcz50_0 : wr.cell? ⟨gb205, 0, none⟩ = some (.int .i64 a0_0) := (blk_cell BK205.out 0).trans rfl
                have hcz50_1 : wr.cell? ⟨gb205, 1, none⟩ = some (.int .i64 a0_1) := (blk_cell BK205.out 1).trans rfl
                have hcz50_2 : wr.cell? ⟨gb205, 2, none⟩ = some (.int .i64 a0_2) := (blk_cell BK205.out 2).trans rfl
                have hcz50_3 : wr.cell? ⟨gb205, 3, none⟩ = some (.slice (some ad206) l0_3.length c0_3) := (blk_cell BK205.out 3).trans rfl
                have hfz50_0 := blk_frozen BK205.out 0
                have hfz50_1 := blk_frozen BK205.out 1
                have hfz50_2 := blk_frozen BK205.out 2
                have hfz50_3 := blk_frozen BK205.out 3
                have p208 : 0 ≤ (x5_4 : Int) := of_decide_eq_true (by first | (with_reducible assumption) | assumption)
                have q208 : x5_4 < (l0_3.length : Int) := of_decide_eq_true (by first | (with_reducible assumption) | assumption)
                obtain ⟨ad208, e208, hx208_0, hx208_1, hx208_2⟩ := at_T63 HR0_3.out x5_4 p208 q208
                obtain rfl : ad206 = ad208 := (by injection e208)
                replace hx208_0 := (HB.out.cell (World.block_lt_of_cell? w _ hx208_0)).trans hx208_0
                replace hx208_1 := (HB.out.cell (World.block_lt_of_cell? w _ hx208_1)).trans hx208_1
                replace hx208_2 := (HB.out.cell (World.block_lt_of_cell? w _ hx208_2)).trans hx208_2
                replace p208 := eq_true p208
                replace q208 := eq_true q208
                go_upto_region 13 with (first | ((with_reducible refine gate_dst (N := 6) rfl ?_); (try (refine gate_guard (by rfl) ?_; dsimp only)); refine box_event ?hg (N := 6) ?hd (cs := #[.int .i64 0, .int .i64 0, .int .i64 0]) (t := 63) ?hr ?_; (case hd => rfl); (case hg => rfl); (case hr => first | (go_simp; done) | (go_simp; rfl)); intro gb209 hg w51 hbox hb; have n0_ := Aside0.mk (blk_below (g := gb205) (o := .cells #[.int .i64 a0_0, .int .i64 a0_1, .int .i64 a0_2, .slice (some ad206) l0_3.length c0_3] 41 (0, 0)) (by (with_reducible repeat (first | refine blk_drewN ?_ _ | refine blk_drew ?_ | refine blk_alloc ?_ _)); exact BK205.out) hb); have n1_ := Aside0.mk (blk_below (g := gb207) (o := .cells #[.int .i64 ((rd_T63 l0_3 x3_2).f0), .int .i64 ((rd_T63 l0_3 x3_2).f1), .int .i64 ((rd_T63 l0_3 x3_2).f2)] 63 (0, 0)) (by (with_reducible repeat (first | refine blk_drewN ?_ _ | refine blk_drew ?_ | refine blk_alloc ?_ _)); exact BK207.out) hb); have n2_ := Aside0.mk (below_step (by repeat (first | (with_reducible first | exact HB.out | apply below_alloc | apply pw_below_drewN | apply below_drew1 | refine below_set ?_ GE205.out | refine below_set ?_ GE207.out) | exact HB.out)) hb); have n3_ := Aside0.mk (hbox); have n4_ := Aside0.mk ((by rw [hg]; exact (below_size (by repeat (first | (with_reducible first | exact HB.out | apply below_alloc | apply pw_below_drewN | apply below_drew1 | refine below_set ?_ GE205.out | refine below_set ?_ GE207.out) | exact HB.out))) : w.heap.size ≤ gb209)); have n5_ := Aside0.mk ((by rw [hg]; exact (below_size (by repeat (first | (with_reducible first | exact HB.out | apply below_alloc | apply pw_below_drewN | apply below_drew1 | refine below_set ?_ GE205.out | refine below_set ?_ GE207.out) | exact HB.out))) : w.heap.size ≤ gb209)); have n6_ := Aside0.mk ((by rw [hg]; exact Nat.ne_of_lt (blk_lt (g := gb205) (o := .cells #[.int .i64 a0_0, .int .i64 a0_1, .int .i64 a0_2, .slice (some ad206) l0_3.length c0_3] 41 (0, 0)) (by (with_reducible repeat (first | refine blk_drewN ?_ _ | refine blk_drew ?_ | refine blk_alloc ?_ _)); exact BK205.out)) : gb205 ≠ gb209)); have n7_ := Aside0.mk ((by rw [hg]; exact Nat.ne_of_gt (blk_lt (g := gb205) (o := .cells #[.int .i64 a0_0, .int .i64 a0_1, .int .i64 a0_2, .slice (some ad206) l0_3.length c0_3] 41 (0, 0)) (by (with_reducible repeat (first | refine blk_drewN ?_ _ | refine blk_drew ?_ | refine blk_alloc ?_ _)); exact BK205.out)) : gb209 ≠ gb205)); have n8_ := Aside0.mk ((by rw [hg]; exact Nat.ne_of_lt (blk_lt (g := gb207) (o := .cells #[.int .i64 ((rd_T63 l0_3 x3_2).f0), .int .i64 ((rd_T63 l0_3 x3_2).f1), .int .i64 ((rd_T63 l0_3 x3_2).f2)] 63 (0, 0)) (by (with_reducible repeat (first | refine blk_drewN ?_ _ | refine blk_drew ?_ | refine blk_alloc ?_ _)); exact BK207.out)) : gb207 ≠ gb209)); have n9_ := Aside0.mk ((by rw [hg]; exact Nat.ne_of_gt (blk_lt (g := gb207) (o := .cells #[.int .i64 ((rd_T63 l0_3 x3_2).f0), .int .i64 ((rd_T63 l0_3 x3_2).f1), .int .i64 ((rd_T63 l0_3 x3_2).f2)] 63 (0, 0)) (by (with_reducible repeat (first | refine blk_drewN ?_ _ | refine blk_drew ?_ | refine blk_alloc ?_ _)); exact BK207.out)) : gb209 ≠ gb207)); clear BK205; clear BK207; clear HB; have BK205 := n0_; have BK207 := n1_; have HB := n2_; have BK209 := n3_; have GW209 := n4_; have GE209 := n5_; have NB205_209 := n6_; have NB209_205 := n7_; have NB207_209 := n8_; have NB209_207 := n9_; clear n0_ n1_ n2_ n3_ n4_ n5_ n6_ n7_ n8_ n9_; clear hb hbox hg; have hnb52 := NB209_205.out; have hnc52 := NB205_209.out; have hnb53 := NB209_207.out; have hnc53 := NB207_209.out; have hcz54_0 : w51.cell? ⟨gb209, 0, none⟩ = some (.int .i64 0) := (blk_cell BK209.out 0).trans rfl; have hcz54_1 : w51.cell? ⟨gb209, 1, none⟩ = some (.int .i64 0) := (blk_cell BK209.out 1).trans rfl; have hcz54_2 : w51.cell? ⟨gb209, 2, none⟩ = some (.int .i64 0) := (blk_cell BK209.out 2).trans rfl; have hfz54_0 := blk_frozen BK209.out 0; have hfz54_1 := blk_frozen BK209.out 1; have hfz54_2 := blk_frozen BK209.out 2))
                (try simp only [Act.put, List.setIfInBounds_toArray, List.set_cons_zero, List.set_cons_succ])
                go_cut [120] (fun v120 wc => ∃ (kq : Nat) (x120_47 : Bool), v120 = .bool x120_47 ∧ Aside0 (remontoirref05_Right.j4 kq x3_2 x5_4 x120_47 a0_0 a0_1 a0_2 l0_3 ((rd_T63 l0_3 x3_2).f0) ((rd_T63 l0_3 x3_2).f1) ((rd_T63 l0_3 x3_2).f2) ((rd_T63 l0_3 x5_4).f0) ((rd_T63 l0_3 x5_4).f1) ((rd_T63 l0_3 x5_4).f2) = some r) ∧ Aside0 (kq ≤ k4) ∧ Aside0 (wc.heap[gb205]? = some (.cells #[.int .i64 a0_0, .int .i64 a0_1, .int .i64 a0_2, (.slice (some ad206) l0_3.length c0_3)] 41 (0, 0))) ∧ Aside0 (wc.heap[gb207]? = some (.cells #[.int .i64 ((rd_T63 l0_3 x3_2).f0), .int .i64 ((rd_T63 l0_3 x3_2).f1), .int .i64 ((rd_T63 l0_3 x3_2).f2)] 63 (0, 0))) ∧ Aside0 (wc.heap[gb209]? = some (.cells #[.int .i64 ((rd_T63 l0_3 x5_4).f0), .int .i64 ((rd_T63 l0_3 x5_4).f1), .int .i64 ((rd_T63 l0_3 x5_4).f2)] 63 (0, 0))) ∧ Aside0 (Below w.heap.size w wc))
                case first =>
                 have H := HC48.out
                 clear HC48
                 by_cases c55 : ((rd_T63 l0_3 x3_2).f1) < ((rd_T63 l0_3 x5_4).f1)
                 ·rw [if_pos c55] at H
                  have c55b0 : decide (((rd_T63 l0_3 x3_2).f1) < ((rd_T63 l0_3 x5_4).f1)) = true := decide_eq_true c55
                  clear c55
                  (first | rw [c55b0] | (simp only [i64_w, i32_w]; rw [c55b0]) | skip)
                  have H' := Aside0.mk H
                  clear H
                  have hnb56 := NB207_205.out
                  have hnc56 := NB205_207.out
                  have hnb57 := NB207_209.out
                  have hnc57 := NB209_207.out
                  have hcz58_0 : w51.cell? ⟨gb207, 0, none⟩ = some (.int .i64 ((rd_T63 l0_3 x3_2).f0)) := (blk_cell BK207.out 0).trans rfl
                  have hcz58_1 : w51.cell? ⟨gb207, 1, none⟩ = some (.int .i64 ((rd_T63 l0_3 x3_2).f1)) := (blk_cell BK207.out 1).trans rfl
                  have hcz58_2 : w51.cell? ⟨gb207, 2, none⟩ = some (.int .i64 ((rd_T63 l0_3 x3_2).f2)) := (blk_cell BK207.out 2).trans rfl
                  have hfz58_0 := blk_frozen BK207.out 0
                  have hfz58_1 := blk_frozen BK207.out 1
                  have hfz58_2 := blk_frozen BK207.out 2
                  have hnb59 := NB209_205.out
                  have hnc59 := NB205_209.out
                  have hcz60_0 : w51.cell? ⟨gb209, 0, none⟩ = some (.int .i64 0) := (blk_cell BK209.out 0).trans rfl
                  have hcz60_1 : w51.cell? ⟨gb209, 1, none⟩ = some (.int .i64 0) := (blk_cell BK209.out 1).trans rfl
                  have hcz60_2 : w51.cell? ⟨gb209, 2, none⟩ = some (.int .i64 0) := (blk_cell BK209.out 2).trans rfl
                  have hfz60_0 := blk_frozen BK209.out 0
                  have hfz60_1 := blk_frozen BK209.out 1
                  have hfz60_2 := blk_frozen BK209.out 2
                  go_wp2
                  go_meet
                  case rel => exact ⟨_, (true), (by first | rfl | (simp; done) | (simp [*]; done)), H', ⟨by have := HJ1.out; have := HK2.out; have := HJ15.out; have := HK4.out; first | omega | exact Nat.le_refl _⟩, ⟨by (with_reducible repeat (first | refine blk_drewN ?_ _ | refine blk_drew ?_ | refine blk_alloc ?_ _)); refine blk_far ?_ NB205_209.out _; (with_reducible repeat (first | refine blk_drewN ?_ _ | refine blk_drew ?_ | refine blk_alloc ?_ _)); refine blk_far ?_ NB205_209.out _; (with_reducible repeat (first | refine blk_drewN ?_ _ | refine blk_drew ?_ | refine blk_alloc ?_ _)); refine blk_far ?_ NB205_209.out _; (with_reducible repeat (first | refine blk_drewN ?_ _ | refine blk_drew ?_ | refine blk_alloc ?_ _)); exact BK205.out⟩, ⟨by (with_reducible repeat (first | refine blk_drewN ?_ _ | refine blk_drew ?_ | refine blk_alloc ?_ _)); refine blk_far ?_ NB207_209.out _; (with_reducible repeat (first | refine blk_drewN ?_ _ | refine blk_drew ?_ | refine blk_alloc ?_ _)); refine blk_far ?_ NB207_209.out _; (with_reducible repeat (first | refine blk_drewN ?_ _ | refine blk_drew ?_ | refine blk_alloc ?_ _)); refine blk_far ?_ NB207_209.out _; (with_reducible repeat (first | refine blk_drewN ?_ _ | refine blk_drew ?_ | refine blk_alloc ?_ _)); exact BK207.out⟩, ⟨by (with_reducible repeat (first | refine blk_drewN ?_ _ | refine blk_drew ?_ | refine blk_alloc ?_ _)); refine blk_put (cs := #[.int .i64 ((rd_T63 l0_3 x5_4).f0), .int .i64 ((rd_T63 l0_3 x5_4).f1), .int .i64 0]) ?_ 2 _ rfl; (with_reducible repeat (first | refine blk_drewN ?_ _ | refine blk_drew ?_ | refine blk_alloc ?_ _)); refine blk_put (cs := #[.int .i64 ((rd_T63 l0_3 x5_4).f0), .int .i64 0, .int .i64 0]) ?_ 1 _ rfl; (with_reducible repeat (first | refine blk_drewN ?_ _ | refine blk_drew ?_ | refine blk_alloc ?_ _)); refine blk_put (cs := #[.int .i64 0, .int .i64 0, .int .i64 0]) ?_ 0 _ rfl; (with_reducible repeat (first | refine blk_drewN ?_ _ | refine blk_drew ?_ | refine blk_alloc ?_ _)); exact BK209.out⟩, ⟨by repeat (first | (with_reducible first | exact HB.out | apply below_alloc | apply pw_below_drewN | apply below_drew1 | refine below_set ?_ GE205.out | refine below_set ?_ GE207.out | refine below_set ?_ GE209.out) | exact HB.out)⟩⟩
                 ·rw [if_neg c55] at H
                  have c55b0 : decide (((rd_T63 l0_3 x3_2).f1) < ((rd_T63 l0_3 x5_4).f1)) = false := decide_eq_false c55
                  clear c55
                  (first | rw [c55b0] | (simp only [i64_w, i32_w]; rw [c55b0]) | skip)
                  by_cases c61 : ((rd_T63 l0_3 x3_2).f1) = ((rd_T63 l0_3 x5_4).f1)
                  ·rw [if_pos c61] at H
                   have c61b0 : (((rd_T63 l0_3 x3_2).f1) == ((rd_T63 l0_3 x5_4).f1)) = true := beq_iff_eq.mpr c61
                   have c61b1 : (((rd_T63 l0_3 x3_2).f1) != ((rd_T63 l0_3 x5_4).f1)) = false := bne_eq_false_iff_eq.mpr c61
                   clear c61
                   have H' := Aside0.mk H
                   clear H
                   have hnb62 := NB207_205.out
                   have hnc62 := NB205_207.out
                   have hnb63 := NB207_209.out
                   have hnc63 := NB209_207.out
                   have hcz64_0 : w51.cell? ⟨gb207, 0, none⟩ = some (.int .i64 ((rd_T63 l0_3 x3_2).f0)) := (blk_cell BK207.out 0).trans rfl
                   have hcz64_1 : w51.cell? ⟨gb207, 1, none⟩ = some (.int .i64 ((rd_T63 l0_3 x3_2).f1)) := (blk_cell BK207.out 1).trans rfl
                   have hcz64_2 : w51.cell? ⟨gb207, 2, none⟩ = some (.int .i64 ((rd_T63 l0_3 x3_2).f2)) := (blk_cell BK207.out 2).trans rfl
                   have hfz64_0 := blk_frozen BK207.out 0
                   have hfz64_1 := blk_frozen BK207.out 1
                   have hfz64_2 := blk_frozen BK207.out 2
                   have hnb65 := NB209_205.out
                   have hnc65 := NB205_209.out
                   have hcz66_0 : w51.cell? ⟨gb209, 0, none⟩ = some (.int .i64 0) := (blk_cell BK209.out 0).trans rfl
                   have hcz66_1 : w51.cell? ⟨gb209, 1, none⟩ = some (.int .i64 0) := (blk_cell BK209.out 1).trans rfl
                   have hcz66_2 : w51.cell? ⟨gb209, 2, none⟩ = some (.int .i64 0) := (blk_cell BK209.out 2).trans rfl
                   have hfz66_0 := blk_frozen BK209.out 0
                   have hfz66_1 := blk_frozen BK209.out 1
                   have hfz66_2 := blk_frozen BK209.out 2
                   go_wp2
                   go_meet
                   case rel => exact ⟨_, (decide (((rd_T63 l0_3 x3_2).f2) > ((rd_T63 l0_3 x5_4).f2))), (by first | rfl | (simp; done) | (simp [*]; done)), H', ⟨by have := HJ1.out; have := HK2.out; have := HJ15.out; have := HK4.out; first | omega | exact Nat.le_refl _⟩, ⟨by (with_reducible repeat (first | refine blk_drewN ?_ _ | refine blk_drew ?_ | refine blk_alloc ?_ _)); refine blk_far ?_ NB205_209.out _; (with_reducible repeat (first | refine blk_drewN ?_ _ | refine blk_drew ?_ | refine blk_alloc ?_ _)); refine blk_far ?_ NB205_209.out _; (with_reducible repeat (first | refine blk_drewN ?_ _ | refine blk_drew ?_ | refine blk_alloc ?_ _)); refine blk_far ?_ NB205_209.out _; (with_reducible repeat (first | refine blk_drewN ?_ _ | refine blk_drew ?_ | refine blk_alloc ?_ _)); exact BK205.out⟩, ⟨by (with_reducible repeat (first | refine blk_drewN ?_ _ | refine blk_drew ?_ | refine blk_alloc ?_ _)); refine blk_far ?_ NB207_209.out _; (with_reducible repeat (first | refine blk_drewN ?_ _ | refine blk_drew ?_ | refine blk_alloc ?_ _)); refine blk_far ?_ NB207_209.out _; (with_reducible repeat (first | refine blk_drewN ?_ _ | refine blk_drew ?_ | refine blk_alloc ?_ _)); refine blk_far ?_ NB207_209.out _; (with_reducible repeat (first | refine blk_drewN ?_ _ | refine blk_drew ?_ | refine blk_alloc ?_ _)); exact BK207.out⟩, ⟨by (with_reducible repeat (first | refine blk_drewN ?_ _ | refine blk_drew ?_ | refine blk_alloc ?_ _)); refine blk_put (cs := #[.int .i64 ((rd_T63 l0_3 x5_4).f0), .int .i64 ((rd_T63 l0_3 x5_4).f1), .int .i64 0]) ?_ 2 _ rfl; (with_reducible repeat (first | refine blk_drewN ?_ _ | refine blk_drew ?_ | refine blk_alloc ?_ _)); refine blk_put (cs := #[.int .i64 ((rd_T63 l0_3 x5_4).f0), .int .i64 0, .int .i64 0]) ?_ 1 _ rfl; (with_reducible repeat (first | refine blk_drewN ?_ _ | refine blk_drew ?_ | refine blk_alloc ?_ _)); refine blk_put (cs := #[.int .i64 0, .int .i64 0, .int .i64 0]) ?_ 0 _ rfl; (with_reducible repeat (first | refine blk_drewN ?_ _ | refine blk_drew ?_ | refine blk_alloc ?_ _)); exact BK209.out⟩, ⟨by repeat (first | (with_reducible first | exact HB.out | apply below_alloc | apply pw_below_drewN | apply below_drew1 | refine below_set ?_ GE205.out | refine below_set ?_ GE207.out | refine below_set ?_ GE209.out) | exact HB.out)⟩⟩
                  ·rw [if_neg c61] at H
                   have c61b0 : (((rd_T63 l0_3 x3_2).f1) == ((rd_T63 l0_3 x5_4).f1)) = false := beq_eq_false_iff_ne.mpr c61
                   have c61b1 : (((rd_T63 l0_3 x3_2).f1) != ((rd_T63 l0_3 x5_4).f1)) = true := bne_iff_ne.mpr c61
                   have H' := Aside0.mk H
                   clear H
                   have hnb67 := NB207_205.out
                   have hnc67 := NB205_207.out
                   have hnb68 := NB207_209.out
                   have hnc68 := NB209_207.out
                   have hcz69_0 : w51.cell? ⟨gb207, 0, none⟩ = some (.int .i64 ((rd_T63 l0_3 x3_2).f0)) := (blk_cell BK207.out 0).trans rfl
                   have hcz69_1 : w51.cell? ⟨gb207, 1, none⟩ = some (.int .i64 ((rd_T63 l0_3 x3_2).f1)) := (blk_cell BK207.out 1).trans rfl
                   have hcz69_2 : w51.cell? ⟨gb207, 2, none⟩ = some (.int .i64 ((rd_T63 l0_3 x3_2).f2)) := (blk_cell BK207.out 2).trans rfl
                   have hfz69_0 := blk_frozen BK207.out 0
                   have hfz69_1 := blk_frozen BK207.out 1
                   have hfz69_2 := blk_frozen BK207.out 2
                   have hnb70 := NB209_205.out
                   have hnc70 := NB205_209.out
                   have hcz71_0 : w51.cell? ⟨gb209, 0, none⟩ = some (.int .i64 0) := (blk_cell BK209.out 0).trans rfl
                   have hcz71_1 : w51.cell? ⟨gb209, 1, none⟩ = some (.int .i64 0) := (blk_cell BK209.out 1).trans rfl
                   have hcz71_2 : w51.cell? ⟨gb209, 2, none⟩ = some (.int .i64 0) := (blk_cell BK209.out 2).trans rfl
                   have hfz71_0 := blk_frozen BK209.out 0
                   have hfz71_1 := blk_frozen BK209.out 1
                   have hfz71_2 := blk_frozen BK209.out 2
                   go_wp2
                   go_meet
                   case rel => exact ⟨_, (false), (by first | rfl | (simp; done) | (simp [*]; done)), H', ⟨by have := HJ1.out; have := HK2.out; have := HJ15.out; have := HK4.out; first | omega | exact Nat.le_refl _⟩, ⟨by (with_reducible repeat (first | refine blk_drewN ?_ _ | refine blk_drew ?_ | refine blk_alloc ?_ _)); refine blk_far ?_ NB205_209.out _; (with_reducible repeat (first | refine blk_drewN ?_ _ | refine blk_drew ?_ | refine blk_alloc ?_ _)); refine blk_far ?_ NB205_209.out _; (with_reducible repeat (first | refine blk_drewN ?_ _ | refine blk_drew ?_ | refine blk_alloc ?_ _)); refine blk_far ?_ NB205_209.out _; (with_reducible repeat (first | refine blk_drewN ?_ _ | refine blk_drew ?_ | refine blk_alloc ?_ _)); exact BK205.out⟩, ⟨by (with_reducible repeat (first | refine blk_drewN ?_ _ | refine blk_drew ?_ | refine blk_alloc ?_ _)); refine blk_far ?_ NB207_209.out _; (with_reducible repeat (first | refine blk_drewN ?_ _ | refine blk_drew ?_ | refine blk_alloc ?_ _)); refine blk_far ?_ NB207_209.out _; (with_reducible repeat (first | refine blk_drewN ?_ _ | refine blk_drew ?_ | refine blk_alloc ?_ _)); refine blk_far ?_ NB207_209.out _; (with_reducible repeat (first | refine blk_drewN ?_ _ | refine blk_drew ?_ | refine blk_alloc ?_ _)); exact BK207.out⟩, ⟨by (with_reducible repeat (first | refine blk_drewN ?_ _ | refine blk_drew ?_ | refine blk_alloc ?_ _)); refine blk_put (cs := #[.int .i64 ((rd_T63 l0_3 x5_4).f0), .int .i64 ((rd_T63 l0_3 x5_4).f1), .int .i64 0]) ?_ 2 _ rfl; (with_reducible repeat (first | refine blk_drewN ?_ _ | refine blk_drew ?_ | refine blk_alloc ?_ _)); refine blk_put (cs := #[.int .i64 ((rd_T63 l0_3 x5_4).f0), .int .i64 0, .int .i64 0]) ?_ 1 _ rfl; (with_reducible repeat (first | refine blk_drewN ?_ _ | refine blk_drew ?_ | refine blk_alloc ?_ _)); refine blk_put (cs := #[.int .i64 0, .int .i64 0, .int .i64 0]) ?_ 0 _ rfl; (with_reducible repeat (first | refine blk_drewN ?_ _ | refine blk_drew ?_ | refine blk_alloc ?_ _)); exact BK209.out⟩, ⟨by repeat (first | (with_reducible first | exact HB.out | apply below_alloc | apply pw_below_drewN | apply below_drew1 | refine below_set ?_ GE205.out | refine below_set ?_ GE207.out | refine below_set ?_ GE209.out) | exact HB.out)⟩⟩
                case rest =>
                 clear HC48
                 (try clear c1); (try clear c2); (try clear p2); (try clear q2); (try clear hx2); (try clear c3); (try clear c4); (try clear c4b0); (try clear c5); (try clear c6); (try clear c6b0); (try clear p6); (try clear c7); (try clear c8); (try clear c8b0); (try clear c10); (try clear c10b0); (try clear c13); (try clear c14); (try clear c14b0); (try clear c15); (try clear c15b0); (try clear c19); (try clear p20); (try clear q20); (try clear hx20); (try clear c21); (try clear c21b0); (try clear c22); (try clear c24); (try clear c24b0); (try clear c25); (try clear c27); (try clear c27b0); (try clear c28); (try clear c30); (try clear c30b0); (try clear c31); (try clear c33); (try clear c33b0); (try clear c34); (try clear c37); (try clear c37b0); (try clear c38); (try clear c41); (try clear c44); (try clear c45); (try clear c45b0); (try clear c46); (try clear c46b0); (try clear c47); (try clear c47b0); (try clear c49); (try clear c52); (try clear c53); (try clear c55); (try clear c55b0); (try clear c56); (try clear c57); (try clear c59); (try clear c61); (try clear c61b0); (try clear c61b1); (try clear c62); (try clear c63); (try clear p64); (try clear c65); (try clear c67); (try clear c68); (try clear c70); (try clear hcz11_0); (try clear hcz11_1); (try clear hcz11_2); (try clear hcz11_3); (try clear hcz12_0); (try clear hcz12_1); (try clear hcz12_2); (try clear hcz12_3); (try clear hcz17_0); (try clear hcz17_1); (try clear hcz17_2); (try clear hcz17_3); (try clear hcz20_0); (try clear hcz20_1); (try clear hcz20_2); (try clear hcz23_0); (try clear hcz23_1); (try clear hcz23_2); (try clear hcz26_0); (try clear hcz26_1); (try clear hcz26_2); (try clear hcz29_0); (try clear hcz29_1); (try clear hcz29_2); (try clear hcz32_0); (try clear hcz32_1); (try clear hcz32_2); (try clear hcz35_0); (try clear hcz35_1); (try clear hcz35_2); (try clear hcz36_0); (try clear hcz36_1); (try clear hcz36_2); (try clear hcz36_3); (try clear hcz39_0); (try clear hcz39_1); (try clear hcz39_2); (try clear hcz40_0); (try clear hcz40_1); (try clear hcz40_2); (try clear hcz40_3); (try clear hcz42_0); (try clear hcz42_1); (try clear hcz42_2); (try clear hcz43_0); (try clear hcz43_1); (try clear hcz43_2); (try clear hcz43_3); (try clear hcz50_0); (try clear hcz50_1); (try clear hcz50_2); (try clear hcz50_3); (try clear hcz54_0); (try clear hcz54_1); (try clear hcz54_2); (try clear hcz58_0); (try clear hcz58_1); (try clear hcz58_2); (try clear hcz5_0); (try clear hcz5_1); (try clear hcz5_2); (try clear hcz5_3); (try clear hcz60_0); (try clear hcz60_1); (try clear hcz60_2); (try clear hcz64_0); (try clear hcz64_1); (try clear hcz64_2); (try clear hcz66_0); (try clear hcz66_1); (try clear hcz66_2); (try clear hcz69_0); (try clear hcz69_1); (try clear hcz69_2); (try clear hcz71_0); (try clear hcz71_1); (try clear hcz71_2); (try clear hcz7_0); (try clear hcz7_1); (try clear hcz7_2); (try clear hcz7_3); (try clear hcz9_0); (try clear hcz9_1); (try clear hcz9_2); (try clear hcz9_3); (try clear hfz11_0); (try clear hfz11_1); (try clear hfz11_2); (try clear hfz11_3); (try clear hfz12_0); (try clear hfz12_1); (try clear hfz12_2); (try clear hfz12_3); (try clear hfz17_0); (try clear hfz17_1); (try clear hfz17_2); (try clear hfz17_3); (try clear hfz20_0); (try clear hfz20_1); (try clear hfz20_2); (try clear hfz23_0); (try clear hfz23_1); (try clear hfz23_2); (try clear hfz26_0); (try clear hfz26_1); (try clear hfz26_2); (try clear hfz29_0); (try clear hfz29_1); (try clear hfz29_2); (try clear hfz32_0); (try clear hfz32_1); (try clear hfz32_2); (try clear hfz35_0); (try clear hfz35_1); (try clear hfz35_2); (try clear hfz36_0); (try clear hfz36_1); (try clear hfz36_2); (try clear hfz36_3); (try clear hfz39_0); (try clear hfz39_1); (try clear hfz39_2); (try clear hfz40_0); (try clear hfz40_1); (try clear hfz40_2); (try clear hfz40_3); (try clear hfz42_0); (try clear hfz42_1); (try clear hfz42_2); (try clear hfz43_0); (try clear hfz43_1); (try clear hfz43_2); (try clear hfz43_3); (try clear hfz50_0); (try clear hfz50_1); (try clear hfz50_2); (try clear hfz50_3); (try clear hfz54_0); (try clear hfz54_1); (try clear hfz54_2); (try clear hfz58_0); (try clear hfz58_1); (try clear hfz58_2); (try clear hfz5_0); (try clear hfz5_1); (try clear hfz5_2); (try clear hfz5_3); (try clear hfz60_0); (try clear hfz60_1); (try clear hfz60_2); (try clear hfz64_0); (try clear hfz64_1); (try clear hfz64_2); (try clear hfz66_0); (try clear hfz66_1); (try clear hfz66_2); (try clear hfz69_0); (try clear hfz69_1); (try clear hfz69_2); (try clear hfz71_0); (try clear hfz71_1); (try clear hfz71_2); (try clear hfz7_0); (try clear hfz7_1); (try clear hfz7_2); (try clear hfz7_3); (try clear hfz9_0); (try clear hfz9_1); (try clear hfz9_2); (try clear hfz9_3); (try clear hx206_0); (try clear hx206_1); (try clear hx206_2); (try clear hx208_0); (try clear hx208_1); (try clear hx208_2); (try clear p2); (try clear p20); (try clear p206); (try clear p208); (try clear p6); (try clear q2); (try clear q20); (try clear q206); (try clear q208)
                 obtain ⟨kq, x120_47, rfl, HA, HJ47, BK205, BK207, BK209, HB⟩ := hcut
                 cases kq with
                 | zero => exact absurd HA.out (by simp [remontoirref05_Right.j4])
                 | succ kj47 =>
                  have H := HA.out
                  clear HA
                  simp only [remontoirref05_Right.j4] at H
                  by_cases c72 : x120_47 = true
                  ·subst c72
                   have H1 : (some false) = some r := by rw [if_pos rfl] at H; exact H
                   clear H
                   have H := H1
                   clear H1
                   obtain rfl := Option.some.inj H
                   go_wp2
                   go_ret
                   exact ⟨by first | rfl | (simp [errW_none, errW_some] <;> rfl) | (simp [*, errW_none, errW_some] <;> rfl), by repeat (first | (with_reducible first | exact HB.out | apply below_alloc | apply pw_below_drewN | apply below_drew1 | refine below_set ?_ GE205.out | refine below_set ?_ GE207.out | refine below_set ?_ GE209.out) | exact HB.out)⟩
                  ·replace c72 := Bool.eq_false_iff.mpr c72
                   subst c72
                   have H1 : (remontoirref05_Right.l2 kj47 x3_2 x5_4 0 0 ((rd_T63 l0_3 x3_2).f1) a0_0 a0_1 a0_2 l0_3 ((rd_T63 l0_3 x3_2).f0) ((rd_T63 l0_3 x3_2).f1) ((rd_T63 l0_3 x3_2).f2) ((rd_T63 l0_3 x5_4).f0) ((rd_T63 l0_3 x5_4).f1) ((rd_T63 l0_3 x5_4).f2)) = some r := by rw [if_neg (show ¬ (false = true) by decide)] at H; exact H
                   clear H
                   have H := H1
                   clear H1
                   have H' := Aside0.mk H
                   clear H
                   have hnb73 := NB207_205.out
                   have hnc73 := NB205_207.out
                   have hnb74 := NB207_209.out
                   have hnc74 := NB209_207.out
                   have hcz75_0 : wc.cell? ⟨gb207, 0, none⟩ = some (.int .i64 ((rd_T63 l0_3 x3_2).f0)) := (blk_cell BK207.out 0).trans rfl
                   have hcz75_1 : wc.cell? ⟨gb207, 1, none⟩ = some (.int .i64 ((rd_T63 l0_3 x3_2).f1)) := (blk_cell BK207.out 1).trans rfl
                   have hcz75_2 : wc.cell? ⟨gb207, 2, none⟩ = some (.int .i64 ((rd_T63 l0_3 x3_2).f2)) := (blk_cell BK207.out 2).trans rfl
                   have hfz75_0 := blk_frozen BK207.out 0
                   have hfz75_1 := blk_frozen BK207.out 1
                   have hfz75_2 := blk_frozen BK207.out 2
                   go_wp2
                   go_loopg [7, 8, 9] kj47 (fun kq v7 v8 v9 w' => ∃ (x7_6 : Int) (x8_6 : Int) (x9_6 : Int), v7 = .int .i64 x7_6 ∧ v8 = .int .i64 x8_6 ∧ v9 = .int .i64 x9_6 ∧ Aside0 (remontoirref05_Right.l2 kq x3_2 x5_4 x7_6 x8_6 x9_6 a0_0 a0_1 a0_2 l0_3 ((rd_T63 l0_3 x3_2).f0) ((rd_T63 l0_3 x3_2).f1) ((rd_T63 l0_3 x3_2).f2) ((rd_T63 l0_3 x5_4).f0) ((rd_T63 l0_3 x5_4).f1) ((rd_T63 l0_3 x5_4).f2) = some r) ∧ Aside0 (kq ≤ kj47) ∧ Aside0 (w'.heap[gb205]? = some (.cells #[.int .i64 a0_0, .int .i64 a0_1, .int .i64 a0_2, (.slice (some ad206) l0_3.length c0_3)] 41 (0, 0))) ∧ Aside0 (w'.heap[gb207]? = some (.cells #[.int .i64 ((rd_T63 l0_3 x3_2).f0), .int .i64 ((rd_T63 l0_3 x3_2).f1), .int .i64 ((rd_T63 l0_3 x3_2).f2)] 63 (0, 0))) ∧ Aside0 (w'.heap[gb209]? = some (.cells #[.int .i64 ((rd_T63 l0_3 x5_4).f0), .int .i64 ((rd_T63 l0_3 x5_4).f1), .int .i64 ((rd_T63 l0_3 x5_4).f2)] 63 (0, 0))) ∧ Aside0 (Below w.heap.size w w'))
                   case atStart => exact ⟨(0), (0), (((rd_T63 l0_3 x3_2).f1)), (by first | rfl | (simp; done) | (simp [*]; done)), (by first | rfl | (simp; done) | (simp [*]; done)), (by first | rfl | (simp; done) | (simp [*]; done)), H', ⟨Nat.le_refl _⟩, ⟨by (with_reducible repeat (first | refine blk_drewN ?_ _ | refine blk_drew ?_ | refine blk_alloc ?_ _)); exact BK205.out⟩, ⟨by (with_reducible repeat (first | refine blk_drewN ?_ _ | refine blk_drew ?_ | refine blk_alloc ?_ _)); exact BK207.out⟩, ⟨by (with_reducible repeat (first | refine blk_drewN ?_ _ | refine blk_drew ?_ | refine blk_alloc ?_ _)); exact BK209.out⟩, ⟨by repeat (first | (with_reducible first | exact HB.out | apply below_alloc | apply pw_below_drewN | apply below_drew1 | refine below_set ?_ GE205.out | refine below_set ?_ GE207.out | refine below_set ?_ GE209.out) | exact HB.out)⟩⟩
                   case round =>
                    clear H'
                    (try clear c1); (try clear c2); (try clear p2); (try clear q2); (try clear hx2); (try clear c3); (try clear c4); (try clear c4b0); (try clear c5); (try clear c6); (try clear c6b0); (try clear p6); (try clear c7); (try clear c8); (try clear c8b0); (try clear c10); (try clear c10b0); (try clear c13); (try clear c14); (try clear c14b0); (try clear c15); (try clear c15b0); (try clear c19); (try clear p20); (try clear q20); (try clear hx20); (try clear c21); (try clear c21b0); (try clear c22); (try clear c24); (try clear c24b0); (try clear c25); (try clear c27); (try clear c27b0); (try clear c28); (try clear c30); (try clear c30b0); (try clear c31); (try clear c33); (try clear c33b0); (try clear c34); (try clear c37); (try clear c37b0); (try clear c38); (try clear c41); (try clear c44); (try clear c45); (try clear c45b0); (try clear c46); (try clear c46b0); (try clear c47); (try clear c47b0); (try clear c49); (try clear c52); (try clear c53); (try clear c55); (try clear c55b0); (try clear c56); (try clear c57); (try clear c59); (try clear c61); (try clear c61b0); (try clear c61b1); (try clear c62); (try clear c63); (try clear p64); (try clear c65); (try clear c67); (try clear c68); (try clear c70); (try clear c72); (try clear c73); (try clear c74); (try clear hcz11_0); (try clear hcz11_1); (try clear hcz11_2); (try clear hcz11_3); (try clear hcz12_0); (try clear hcz12_1); (try clear hcz12_2); (try clear hcz12_3); (try clear hcz17_0); (try clear hcz17_1); (try clear hcz17_2); (try clear hcz17_3); (try clear hcz20_0); (try clear hcz20_1); (try clear hcz20_2); (try clear hcz23_0); (try clear hcz23_1); (try clear hcz23_2); (try clear hcz26_0); (try clear hcz26_1); (try clear hcz26_2); (try clear hcz29_0); (try clear hcz29_1); (try clear hcz29_2); (try clear hcz32_0); (try clear hcz32_1); (try clear hcz32_2); (try clear hcz35_0); (try clear hcz35_1); (try clear hcz35_2); (try clear hcz36_0); (try clear hcz36_1); (try clear hcz36_2); (try clear hcz36_3); (try clear hcz39_0); (try clear hcz39_1); (try clear hcz39_2); (try clear hcz40_0); (try clear hcz40_1); (try clear hcz40_2); (try clear hcz40_3); (try clear hcz42_0); (try clear hcz42_1); (try clear hcz42_2); (try clear hcz43_0); (try clear hcz43_1); (try clear hcz43_2); (try clear hcz43_3); (try clear hcz50_0); (try clear hcz50_1); (try clear hcz50_2); (try clear hcz50_3); (try clear hcz54_0); (try clear hcz54_1); (try clear hcz54_2); (try clear hcz58_0); (try clear hcz58_1); (try clear hcz58_2); (try clear hcz5_0); (try clear hcz5_1); (try clear hcz5_2); (try clear hcz5_3); (try clear hcz60_0); (try clear hcz60_1); (try clear hcz60_2); (try clear hcz64_0); (try clear hcz64_1); (try clear hcz64_2); (try clear hcz66_0); (try clear hcz66_1); (try clear hcz66_2); (try clear hcz69_0); (try clear hcz69_1); (try clear hcz69_2); (try clear hcz71_0); (try clear hcz71_1); (try clear hcz71_2); (try clear hcz75_0); (try clear hcz75_1); (try clear hcz75_2); (try clear hcz7_0); (try clear hcz7_1); (try clear hcz7_2); (try clear hcz7_3); (try clear hcz9_0); (try clear hcz9_1); (try clear hcz9_2); (try clear hcz9_3); (try clear hfz11_0); (try clear hfz11_1); (try clear hfz11_2); (try clear hfz11_3); (try clear hfz12_0); (try clear hfz12_1); (try clear hfz12_2); (try clear hfz12_3); (try clear hfz17_0); (try clear hfz17_1); (try clear hfz17_2); (try clear hfz17_3); (try clear hfz20_0); (try clear hfz20_1); (try clear hfz20_2); (try clear hfz23_0); (try clear hfz23_1); (try clear hfz23_2); (try clear hfz26_0); (try clear hfz26_1); (try clear hfz26_2); (try clear hfz29_0); (try clear hfz29_1); (try clear hfz29_2); (try clear hfz32_0); (try clear hfz32_1); (try clear hfz32_2); (try clear hfz35_0); (try clear hfz35_1); (try clear hfz35_2); (try clear hfz36_0); (try clear hfz36_1); (try clear hfz36_2); (try clear hfz36_3); (try clear hfz39_0); (try clear hfz39_1); (try clear hfz39_2); (try clear hfz40_0); (try clear hfz40_1); (try clear hfz40_2); (try clear hfz40_3); (try clear hfz42_0); (try clear hfz42_1); (try clear hfz42_2); (try clear hfz43_0); (try clear hfz43_1); (try clear hfz43_2); (try clear hfz43_3); (try clear hfz50_0); (try clear hfz50_1); (try clear hfz50_2); (try clear hfz50_3); (try clear hfz54_0); (try clear hfz54_1); (try clear hfz54_2); (try clear hfz58_0); (try clear hfz58_1); (try clear hfz58_2); (try clear hfz5_0); (try clear hfz5_1); (try clear hfz5_2); (try clear hfz5_3); (try clear hfz60_0); (try clear hfz60_1); (try clear hfz60_2); (try clear hfz64_0); (try clear hfz64_1); (try clear hfz64_2); (try clear hfz66_0); (try clear hfz66_1); (try clear hfz66_2); (try clear hfz69_0); (try clear hfz69_1); (try clear hfz69_2); (try clear hfz71_0); (try clear hfz71_1); (try clear hfz71_2); (try clear hfz75_0); (try clear hfz75_1); (try clear hfz75_2); (try clear hfz7_0); (try clear hfz7_1); (try clear hfz7_2); (try clear hfz7_3); (try clear hfz9_0); (try clear hfz9_1); (try clear hfz9_2); (try clear hfz9_3); (try clear hx206_0); (try clear hx206_1); (try clear hx206_2); (try clear hx208_0); (try clear hx208_1); (try clear hx208_2); (try clear p2); (try clear p20); (try clear p206); (try clear p208); (try clear p6); (try clear p64); (try clear q2); (try clear q20); (try clear q206); (try clear q208)
                    obtain ⟨x7_6, x8_6, x9_6, rfl, rfl, rfl, HA, HK6, BK205, BK207, BK209, HB⟩ := hrel
                    cases gk with
                    | zero => exact absurd HA.out (by simp [remontoirref05_Right.l2])
                    | succ k6 =>
                     have H := HA.out
                     clear HA
                     simp only [remontoirref05_Right.l2] at H
                     by_cases c76 : x9_6 < (wrap64 (((rd_T63 l0_3 x3_2).f1) + ((rd_T63 l0_3 x3_2).f2)))
                     ·rw [if_pos c76] at H
                      have c76b0 : decide (x9_6 < (wrap64 (((rd_T63 l0_3 x3_2).f1) + ((rd_T63 l0_3 x3_2).f2)))) = true := decide_eq_true c76
                      clear c76
                      by_cases c77 : x9_6 < (wrap64 (((rd_T63 l0_3 x5_4).f1) + ((rd_T63 l0_3 x5_4).f2)))
                      ·rw [if_pos c77] at H
                       have c77b0 : decide (x9_6 < (wrap64 (((rd_T63 l0_3 x5_4).f1) + ((rd_T63 l0_3 x5_4).f2)))) = true := decide_eq_true c77
                       clear c77
                       have H' := Aside0.mk H
                       clear H
                       have hnb78 := NB207_205.out
                       have hnc78 := NB205_207.out
                       have hnb79 := NB207_209.out
                       have hnc79 := NB209_207.out
                       have hcz80_0 : wr.cell? ⟨gb207, 0, none⟩ = some (.int .i64 ((rd_T63 l0_3 x3_2).f0)) := (blk_cell BK207.out 0).trans rfl
                       have hcz80_1 : wr.cell? ⟨gb207, 1, none⟩ = some (.int .i64 ((rd_T63 l0_3 x3_2).f1)) := (blk_cell BK207.out 1).trans rfl
                       have hcz80_2 : wr.cell? ⟨gb207, 2, none⟩ = some (.int .i64 ((rd_T63 l0_3 x3_2).f2)) := (blk_cell BK207.out 2).trans rfl
                       have hfz80_0 := blk_frozen BK207.out 0
                       have hfz80_1 := blk_frozen BK207.out 1
                       have hfz80_2 := blk_frozen BK207.out 2
                       have hnb81 := NB209_205.out
                       have hnc81 := NB205_209.out
                       have hcz82_0 : wr.cell? ⟨gb209, 0, none⟩ = some (.int .i64 ((rd_T63 l0_3 x5_4).f0)) := (blk_cell BK209.out 0).trans rfl
                       have hcz82_1 : wr.cell? ⟨gb209, 1, none⟩ = some (.int .i64 ((rd_T63 l0_3 x5_4).f1)) := (blk_cell BK209.out 1).trans rfl
                       have hcz82_2 : wr.cell? ⟨gb209, 2, none⟩ = some (.int .i64 ((rd_T63 l0_3 x5_4).f2)) := (blk_cell BK209.out 2).trans rfl
                       have hfz82_0 := blk_frozen BK209.out 0
                       have hfz82_1 := blk_frozen BK209.out 1
                       have hfz82_2 := blk_frozen BK209.out 2
                       go_wp2
                       go_roundg k6
                       case measure => have := HJ1.out; have := HK2.out; have := HJ15.out; have := HK4.out; have := HJ47.out; have := HK6.out; omega
                       case rel => exact ⟨(wrap64 (x7_6 + 1)), (x8_6), (wrap64 (x9_6 + 1)), (by first | rfl | (simp; done) | (simp [*]; done)), (by first | rfl | (simp; done) | (simp [*]; done)), (by first | rfl | (simp; done) | (simp [*]; done)), H', ⟨by have := HJ1.out; have := HK2.out; have := HJ15.out; have := HK4.out; have := HJ47.out; have := HK6.out; omega⟩, ⟨by (with_reducible repeat (first | refine blk_drewN ?_ _ | refine blk_drew ?_ | refine blk_alloc ?_ _)); exact BK205.out⟩, ⟨by (with_reducible repeat (first | refine blk_drewN ?_ _ | refine blk_drew ?_ | refine blk_alloc ?_ _)); exact BK207.out⟩, ⟨by (with_reducible repeat (first | refine blk_drewN ?_ _ | refine blk_drew ?_ | refine blk_alloc ?_ _)); exact BK209.out⟩, ⟨by repeat (first | (with_reducible first | exact HB.out | apply below_alloc | apply pw_below_drewN | apply below_drew1 | refine below_set ?_ GE205.out | refine below_set ?_ GE207.out | refine below_set ?_ GE209.out) | exact HB.out)⟩⟩
                      ·rw [if_neg c77] at H
                       have c77b0 : decide (x9_6 < (wrap64 (((rd_T63 l0_3 x5_4).f1) + ((rd_T63 l0_3 x5_4).f2)))) = false := decide_eq_false c77
                       clear c77
                       have H' := Aside0.mk H
                       clear H
                       have hnb83 := NB207_205.out
                       have hnc83 := NB205_207.out
                       have hnb84 := NB207_209.out
                       have hnc84 := NB209_207.out
                       have hcz85_0 : wr.cell? ⟨gb207, 0, none⟩ = some (.int .i64 ((rd_T63 l0_3 x3_2).f0)) := (blk_cell BK207.out 0).trans rfl
                       have hcz85_1 : wr.cell? ⟨gb207, 1, none⟩ = some (.int .i64 ((rd_T63 l0_3 x3_2).f1)) := (blk_cell BK207.out 1).trans rfl
                       have hcz85_2 : wr.cell? ⟨gb207, 2, none⟩ = some (.int .i64 ((rd_T63 l0_3 x3_2).f2)) := (blk_cell BK207.out 2).trans rfl
                       have hfz85_0 := blk_frozen BK207.out 0
                       have hfz85_1 := blk_frozen BK207.out 1
                       have hfz85_2 := blk_frozen BK207.out 2
                       have hnb86 := NB209_205.out
                       have hnc86 := NB205_209.out
                       have hcz87_0 : wr.cell? ⟨gb209, 0, none⟩ = some (.int .i64 ((rd_T63 l0_3 x5_4).f0)) := (blk_cell BK209.out 0).trans rfl
                       have hcz87_1 : wr.cell? ⟨gb209, 1, none⟩ = some (.int .i64 ((rd_T63 l0_3 x5_4).f1)) := (blk_cell BK209.out 1).trans rfl
                       have hcz87_2 : wr.cell? ⟨gb209, 2, none⟩ = some (.int .i64 ((rd_T63 l0_3 x5_4).f2)) := (blk_cell BK209.out 2).trans rfl
                       have hfz87_0 := blk_frozen BK209.out 0
                       have hfz87_1 := blk_frozen BK209.out 1
                       have hfz87_2 := blk_frozen BK209.out 2
                       go_wp2
                       go_roundg k6
                       case measure => have := HJ1.out; have := HK2.out; have := HJ15.out; have := HK4.out; have := HJ47.out; have := HK6.out; omega
                       case rel => exact ⟨(x7_6), (wrap64 (x8_6 + 1)), (wrap64 (x9_6 + 1)), (by first | rfl | (simp; done) | (simp [*]; done)), (by first | rfl | (simp; done) | (simp [*]; done)), (by first | rfl | (simp; done) | (simp [*]; done)), H', ⟨by have := HJ1.out; have := HK2.out; have := HJ15.out; have := HK4.out; have := HJ47.out; have := HK6.out; omega⟩, ⟨by (with_reducible repeat (first | refine blk_drewN ?_ _ | refine blk_drew ?_ | refine blk_alloc ?_ _)); exact BK205.out⟩, ⟨by (with_reducible repeat (first | refine blk_drewN ?_ _ | refine blk_drew ?_ | refine blk_alloc ?_ _)); exact BK207.out⟩, ⟨by (with_reducible repeat (first | refine blk_drewN ?_ _ | refine blk_drew ?_ | refine blk_alloc ?_ _)); exact BK209.out⟩, ⟨by repeat (first | (with_reducible first | exact HB.out | apply below_alloc | apply pw_below_drewN | apply below_drew1 | refine below_set ?_ GE205.out | refine below_set ?_ GE207.out | refine below_set ?_ GE209.out) | exact HB.out)⟩⟩
                     ·rw [if_neg c76] at H
                      have c76b0 : decide (x9_6 < (wrap64 (((rd_T63 l0_3 x3_2).f1) + ((rd_T63 l0_3 x3_2).f2)))) = false := decide_eq_false c76
                      clear c76
                      by_cases c88 : x7_6 > 0
                      ·rw [if_pos c88] at H
                       have c88b0 : decide (0 < x7_6) = true := decide_eq_true c88
                       clear c88
                       by_cases c89 : x8_6 > 0
                       ·rw [if_pos c89] at H
                        have c89b0 : decide (0 < x8_6) = true := decide_eq_true c89
                        clear c89
                        obtain rfl := Option.some.inj H
                        have hnb90 := NB207_205.out
                        have hnc90 := NB205_207.out
                        have hnb91 := NB207_209.out
                        have hnc91 := NB209_207.out
                        have hcz92_0 : wr.cell? ⟨gb207, 0, none⟩ = some (.int .i64 ((rd_T63 l0_3 x3_2).f0)) := (blk_cell BK207.out 0).trans rfl
                        have hcz92_1 : wr.cell? ⟨gb207, 1, none⟩ = some (.int .i64 ((rd_T63 l0_3 x3_2).f1)) := (blk_cell BK207.out 1).trans rfl
                        have hcz92_2 : wr.cell? ⟨gb207, 2, none⟩ = some (.int .i64 ((rd_T63 l0_3 x3_2).f2)) := (blk_cell BK207.out 2).trans rfl
                        have hfz92_0 := blk_frozen BK207.out 0
                        have hfz92_1 := blk_frozen BK207.out 1
                        have hfz92_2 := blk_frozen BK207.out 2
                        go_wp2
                        go_ret
                        exact ⟨by first | rfl | (simp [errW_none, errW_some] <;> rfl) | (simp [*, errW_none, errW_some] <;> rfl), by repeat (first | (with_reducible first | exact HB.out | apply below_alloc | apply pw_below_drewN | apply below_drew1 | refine below_set ?_ GE205.out | refine below_set ?_ GE207.out | refine below_set ?_ GE209.out) | exact HB.out)⟩
                       ·rw [if_neg c89] at H
                        have c89b0 : decide (0 < x8_6) = false := decide_eq_false c89
                        clear c89
                        by_cases c93 : ((rd_T63 l0_3 x5_4).f0) = ((rd_T63 l0_3 x3_2).f0)
                        ·rw [if_pos c93] at H
                         have c93b0 : (((rd_T63 l0_3 x5_4).f0) == ((rd_T63 l0_3 x3_2).f0)) = true := beq_iff_eq.mpr c93
                         have c93b1 : (((rd_T63 l0_3 x5_4).f0) != ((rd_T63 l0_3 x3_2).f0)) = false := bne_eq_false_iff_eq.mpr c93
                         clear c93
                         obtain rfl := Option.some.inj H
                         have hnb94 := NB207_205.out
                         have hnc94 := NB205_207.out
                         have hnb95 := NB207_209.out
                         have hnc95 := NB209_207.out
                         have hcz96_0 : wr.cell? ⟨gb207, 0, none⟩ = some (.int .i64 ((rd_T63 l0_3 x3_2).f0)) := (blk_cell BK207.out 0).trans rfl
                         have hcz96_1 : wr.cell? ⟨gb207, 1, none⟩ = some (.int .i64 ((rd_T63 l0_3 x3_2).f1)) := (blk_cell BK207.out 1).trans rfl
                         have hcz96_2 : wr.cell? ⟨gb207, 2, none⟩ = some (.int .i64 ((rd_T63 l0_3 x3_2).f2)) := (blk_cell BK207.out 2).trans rfl
                         have hfz96_0 := blk_frozen BK207.out 0
                         have hfz96_1 := blk_frozen BK207.out 1
                         have hfz96_2 := blk_frozen BK207.out 2
                         have hnb97 := NB209_205.out
                         have hnc97 := NB205_209.out
                         have hcz98_0 : wr.cell? ⟨gb209, 0, none⟩ = some (.int .i64 ((rd_T63 l0_3 x5_4).f0)) := (blk_cell BK209.out 0).trans rfl
                         have hcz98_1 : wr.cell? ⟨gb209, 1, none⟩ = some (.int .i64 ((rd_T63 l0_3 x5_4).f1)) := (blk_cell BK209.out 1).trans rfl
                         have hcz98_2 : wr.cell? ⟨gb209, 2, none⟩ = some (.int .i64 ((rd_T63 l0_3 x5_4).f2)) := (blk_cell BK209.out 2).trans rfl
                         have hfz98_0 := blk_frozen BK209.out 0
                         have hfz98_1 := blk_frozen BK209.out 1
                         have hfz98_2 := blk_frozen BK209.out 2
                         go_wp2
                         go_ret
                         exact ⟨by first | rfl | (simp [errW_none, errW_some] <;> rfl) | (simp [*, errW_none, errW_some] <;> rfl), by repeat (first | (with_reducible first | exact HB.out | apply below_alloc | apply pw_below_drewN | apply below_drew1 | refine below_set ?_ GE205.out | refine below_set ?_ GE207.out | refine below_set ?_ GE209.out) | exact HB.out)⟩
                        ·rw [if_neg c93] at H
                         have c93b0 : (((rd_T63 l0_3 x5_4).f0) == ((rd_T63 l0_3 x3_2).f0)) = false := beq_eq_false_iff_ne.mpr c93
                         have c93b1 : (((rd_T63 l0_3 x5_4).f0) != ((rd_T63 l0_3 x3_2).f0)) = true := bne_iff_ne.mpr c93
                         have H' := Aside0.mk H
                         clear H
                         have hnb99 := NB207_205.out
                         have hnc99 := NB205_207.out
                         have hnb100 := NB207_209.out
                         have hnc100 := NB209_207.out
                         have hcz101_0 : wr.cell? ⟨gb207, 0, none⟩ = some (.int .i64 ((rd_T63 l0_3 x3_2).f0)) := (blk_cell BK207.out 0).trans rfl
                         have hcz101_1 : wr.cell? ⟨gb207, 1, none⟩ = some (.int .i64 ((rd_T63 l0_3 x3_2).f1)) := (blk_cell BK207.out 1).trans rfl
                         have hcz101_2 : wr.cell? ⟨gb207, 2, none⟩ = some (.int .i64 ((rd_T63 l0_3 x3_2).f2)) := (blk_cell BK207.out 2).trans rfl
                         have hfz101_0 := blk_frozen BK207.out 0
                         have hfz101_1 := blk_frozen BK207.out 1
                         have hfz101_2 := blk_frozen BK207.out 2
                         have hnb102 := NB209_205.out
                         have hnc102 := NB205_209.out
                         have hcz103_0 : wr.cell? ⟨gb209, 0, none⟩ = some (.int .i64 ((rd_T63 l0_3 x5_4).f0)) := (blk_cell BK209.out 0).trans rfl
                         have hcz103_1 : wr.cell? ⟨gb209, 1, none⟩ = some (.int .i64 ((rd_T63 l0_3 x5_4).f1)) := (blk_cell BK209.out 1).trans rfl
                         have hcz103_2 : wr.cell? ⟨gb209, 2, none⟩ = some (.int .i64 ((rd_T63 l0_3 x5_4).f2)) := (blk_cell BK209.out 2).trans rfl
                         have hfz103_0 := blk_frozen BK209.out 0
                         have hfz103_1 := blk_frozen BK209.out 1
                         have hfz103_2 := blk_frozen BK209.out 2
                         go_wp2
                         go_roundg k6
                         case measure => have := HJ1.out; have := HK2.out; have := HJ15.out; have := HK4.out; have := HJ47.out; have := HK6.out; omega
                         case rel => exact ⟨(wrap64 (x5_4 + 1)), (by first | rfl | (simp; done) | (simp [*]; done)), H', ⟨by have := HJ1.out; have := HK2.out; have := HJ15.out; have := HK4.out; have := HJ47.out; have := HK6.out; omega⟩, ⟨by (with_reducible repeat (first | refine blk_drewN ?_ _ | refine blk_drew ?_ | refine blk_alloc ?_ _)); exact BK205.out⟩, ⟨by (with_reducible repeat (first | refine blk_drewN ?_ _ | refine blk_drew ?_ | refine blk_alloc ?_ _)); exact BK207.out⟩, ⟨by repeat (first | (with_reducible first | exact HB.out | apply below_alloc | apply pw_below_drewN | apply below_drew1 | refine below_set ?_ GE205.out | refine below_set ?_ GE207.out | refine below_set ?_ GE209.out) | exact HB.out)⟩⟩
                      ·rw [if_neg c88] at H
                       have c88b0 : decide (0 < x7_6) = false := decide_eq_false c88
                       clear c88
                       have H' := Aside0.mk H
                       clear H
                       have hnb104 := NB207_205.out
                       have hnc104 := NB205_207.out
                       have hnb105 := NB207_209.out
                       have hnc105 := NB209_207.out
                       have hcz106_0 : wr.cell? ⟨gb207, 0, none⟩ = some (.int .i64 ((rd_T63 l0_3 x3_2).f0)) := (blk_cell BK207.out 0).trans rfl
                       have hcz106_1 : wr.cell? ⟨gb207, 1, none⟩ = some (.int .i64 ((rd_T63 l0_3 x3_2).f1)) := (blk_cell BK207.out 1).trans rfl
                       have hcz106_2 : wr.cell? ⟨gb207, 2, none⟩ = some (.int .i64 ((rd_T63 l0_3 x3_2).f2)) := (blk_cell BK207.out 2).trans rfl
                       have hfz106_0 := blk_frozen BK207.out 0
                       have hfz106_1 := blk_frozen BK207.out 1
                       have hfz106_2 := blk_frozen BK207.out 2
                       go_wp2
                       go_roundg k6
                       case measure => have := HJ1.out; have := HK2.out; have := HJ15.out; have := HK4.out; have := HJ47.out; have := HK6.out; omega
                       case rel => exact ⟨(wrap64 (x5_4 + 1)), (by first | rfl | (simp; done) | (simp [*]; done)), H', ⟨by have := HJ1.out; have := HK2.out; have := HJ15.out; have := HK4.out; have := HJ47.out; have := HK6.out; omega⟩, ⟨by (with_reducible repeat (first | refine blk_drewN ?_ _ | refine blk_drew ?_ | refine blk_alloc ?_ _)); exact BK205.out⟩, ⟨by (with_reducible repeat (first | refine blk_drewN ?_ _ | refine blk_drew ?_ | refine blk_alloc ?_ _)); exact BK207.out⟩, ⟨by repeat (first | (with_reducible first | exact HB.out | apply below_alloc | apply pw_below_drewN | apply below_drew1 | refine below_set ?_ GE205.out | refine below_set ?_ GE207.out | refine below_set ?_ GE209.out) | exact HB.out)⟩⟩
               ·rw [if_neg c47] at H
                exact absurd H (by simp)
              ·rw [if_neg c46] at H
               exact absurd H (by simp)
             ·rw [if_neg c45] at H
              have c45b0 : decide (x5_4 < x3_2) = false := decide_eq_false c45
              clear c45
              have H' := Aside0.mk H
              clear H
              go_wp2
              go_roundg k4
              case measure => have := HJ1.out; have := HK2.out; have := HJ15.out; have := HK4.out; omega
              case rel => exact ⟨(wrap64 (x3_2 + 1)), (by first | rfl | (simp; done) | (simp [*]; done)), H', ⟨by have := HJ1.out; have := HK2.out; have := HJ15.out; have := HK4.out; omega⟩, ⟨by (with_reducible repeat (first | refine blk_drewN ?_ _ | refine blk_drew ?_ | refine blk_alloc ?_ _)); exact BK205.out⟩, ⟨by repeat (first | (with_reducible first | exact HB.out | apply below_alloc | apply pw_below_drewN | apply below_drew1 | refine below_set ?_ GE205.out | refine below_set ?_ GE207.out) | exact HB.out)⟩⟩
       ·rw [if_neg c15] at H
        exact absurd H (by simp)
      ·rw [if_neg c14] at H
       have c14b0 : decide (x3_2 < (l0_3.length : Int)) = false := decide_eq_false c14
       clear c14
       obtain rfl := Option.some.inj H
       have hcz107_0 : wr.cell? ⟨gb205, 0, none⟩ = some (.int .i64 a0_0) := (blk_cell BK205.out 0).trans rfl
       have hcz107_1 : wr.cell? ⟨gb205, 1, none⟩ = some (.int .i64 a0_1) := (blk_cell BK205.out 1).trans rfl
       have hcz107_2 : wr.cell? ⟨gb205, 2, none⟩ = some (.int .i64 a0_2) := (blk_cell BK205.out 2).trans rfl
       have hcz107_3 : wr.cell? ⟨gb205, 3, none⟩ = some (.slice A0_3 l0_3.length c0_3) := (blk_cell BK205.out 3).trans rfl
       have hfz107_0 := blk_frozen BK205.out 0
       have hfz107_1 := blk_frozen BK205.out 1
       have hfz107_2 := blk_frozen BK205.out 2
       have hfz107_3 := blk_frozen BK205.out 3
       go_wp2
       go_ret
       exact ⟨by first | rfl | (simp [errW_none, errW_some] <;> rfl) | (simp [*, errW_none, errW_some] <;> rfl), by repeat (first | (with_reducible first | exact HB.out | apply below_alloc | apply pw_below_drewN | apply below_drew1 | refine below_set ?_ GE205.out) | exact HB.out)⟩
def cm5 (bA aE x : Int) : Int := max 0 (min x aE - bA)
def ot5 (bA aE x : Int) : Int := max 0 (x - max bA aE)
theorem remontoirref05_Right.l2_ev (c d t : Int) (l : List (S63)) (i j : Int) (a b : S63) (hc : c ≤ 200) (ha : okSec c a = true) (hb : okSec c b = true) (r : Bool)
    (hr : Ev (fun k => remontoirref05_Right.l1 k i (wrap64 (j + 1)) c d t l b.f0 b.f1 b.f2) r) :
    ∀ (n : Nat) (x : Int), b.f1 ≤ x → b.f1 + b.f2 = x + n →
      Ev (fun k => remontoirref05_Right.l2 k i j (cm5 b.f1 (a.f1 + a.f2) x) (ot5 b.f1 (a.f1 + a.f2) x) x c d t l b.f0 b.f1 b.f2 a.f0 a.f1 a.f2)
        (if cm5 b.f1 (a.f1 + a.f2) (b.f1 + b.f2) > 0 ∧ (ot5 b.f1 (a.f1 + a.f2) (b.f1 + b.f2) > 0 ∨ a.f0 = b.f0) then false else r) := by
  have ha' := okSec_iff.mp ha
  have hb' := okSec_iff.mp hb
  intro n
  induction n with
  | zero =>
    intro x hx hn
    have e : x = b.f1 + b.f2 := by omega
    subst e
    by_cases h1 : cm5 b.f1 (a.f1 + a.f2) (b.f1 + b.f2) > 0
    · by_cases h2 : ot5 b.f1 (a.f1 + a.f2) (b.f1 + b.f2) > 0
      · rw [if_pos ⟨h1, .inl h2⟩]
        refine Ev.step (f := fun _ => some false) (fun k => ?_) (Ev.now _)
        simp only [remontoirref05_Right.l2]
        rw [w64 (n := b.f1 + b.f2) (by omega), if_neg (by omega), if_pos h1, if_pos h2]
      · by_cases h3 : a.f0 = b.f0
        · rw [if_pos ⟨h1, .inr h3⟩]
          refine Ev.step (f := fun _ => some false) (fun k => ?_) (Ev.now _)
          simp only [remontoirref05_Right.l2]
          rw [w64 (n := b.f1 + b.f2) (by omega), if_neg (by omega), if_pos h1, if_neg h2, if_pos h3]
        · rw [if_neg (fun h => h.2.elim h2 h3)]
          refine Ev.step (fun k => ?_) hr
          simp only [remontoirref05_Right.l2]
          rw [w64 (n := b.f1 + b.f2) (by omega), if_neg (by omega), if_pos h1, if_neg h2, if_neg h3]
    · rw [if_neg (fun h => h1 h.1)]
      refine Ev.step (fun k => ?_) hr
      simp only [remontoirref05_Right.l2]
      rw [w64 (n := b.f1 + b.f2) (by omega), if_neg (by omega), if_neg h1]
  | succ n ih =>
    intro x hx hn
    have ih2 := ih (x + 1) (by omega) (by omega)
    by_cases h : x < a.f1 + a.f2
    · have e1 : cm5 b.f1 (a.f1 + a.f2) (x + 1) = cm5 b.f1 (a.f1 + a.f2) x + 1 := by unfold cm5; omega
      have e2 : ot5 b.f1 (a.f1 + a.f2) (x + 1) = ot5 b.f1 (a.f1 + a.f2) x := by unfold ot5; omega
      have b1 : 0 ≤ cm5 b.f1 (a.f1 + a.f2) x ∧ cm5 b.f1 (a.f1 + a.f2) x ≤ 400 := by unfold cm5; omega
      rw [e1, e2] at ih2
      refine Ev.step (fun k => ?_) ih2
      simp only [remontoirref05_Right.l2]
      rw [w64 (n := b.f1 + b.f2) (by omega), if_pos (by omega), w64 (n := a.f1 + a.f2) (by omega), if_pos h, w64 (n := cm5 b.f1 (a.f1 + a.f2) x + 1) (by omega), w64 (n := x + 1) (by omega)]
    · have e1 : cm5 b.f1 (a.f1 + a.f2) (x + 1) = cm5 b.f1 (a.f1 + a.f2) x := by unfold cm5; omega
      have e2 : ot5 b.f1 (a.f1 + a.f2) (x + 1) = ot5 b.f1 (a.f1 + a.f2) x + 1 := by unfold ot5; omega
      have b1 : 0 ≤ ot5 b.f1 (a.f1 + a.f2) x ∧ ot5 b.f1 (a.f1 + a.f2) x ≤ 400 := by unfold ot5; omega
      rw [e1, e2] at ih2
      refine Ev.step (fun k => ?_) ih2
      simp only [remontoirref05_Right.l2]
      rw [w64 (n := b.f1 + b.f2) (by omega), if_pos (by omega), w64 (n := a.f1 + a.f2) (by omega), if_neg h, w64 (n := ot5 b.f1 (a.f1 + a.f2) x + 1) (by omega), w64 (n := x + 1) (by omega)]
theorem fits5 (c : Int) (a b : S63) (ha : okSec c a = true) (hb : okSec c b = true) :
    fitsS a b = (!(decide (b.f1 < a.f1) || (decide (b.f1 = a.f1) && decide (b.f2 > a.f2))) && !(decide (cm5 b.f1 (a.f1 + a.f2) (b.f1 + b.f2) > 0 ∧ (ot5 b.f1 (a.f1 + a.f2) (b.f1 + b.f2) > 0 ∨ a.f0 = b.f0)))) := by
  have ha' := okSec_iff.mp ha
  have hb' := okSec_iff.mp hb
  rw [Bool.eq_iff_iff]
  unfold fitsS cm5 ot5
  simp only [Bool.or_eq_true, Bool.and_eq_true, decide_eq_true_eq, Bool.not_eq_true', Bool.or_eq_false_iff, Bool.and_eq_false_iff, decide_eq_false_iff_not, bne_iff_ne, ne_eq]
  by_cases h : a.f0 = b.f0
  · simp only [h, or_true, and_true, not_true, and_false, or_false]
    omega
  · simp only [h, or_false, not_false_iff, and_true]
    omega
theorem remontoirref05_Right.l1_ev (c d t : Int) (l : List (S63)) (b : S63) (pre post : List (S63)) (hc : c ≤ 200) (hl : l = pre ++ post) (hlen : (l.length : Int) ≤ 1000) (hb : okSec c b = true) (hok : ∀ a ∈ pre, okSec c a = true) (r : Bool)
    (hr : Ev (fun k => remontoirref05_Right.l0 k (wrap64 ((pre.length : Int) + 1)) c d t l) r) :
    ∀ (p2 p1 : List (S63)), p1 ++ p2 = pre → Ev (fun k => remontoirref05_Right.l1 k (pre.length : Int) (p1.length : Int) c d t l b.f0 b.f1 b.f2) (p2.all (fun a => fitsS a b) && r) := by
  intro p2
  induction p2 with
  | nil =>
    intro p1 hp
    have e : p1 = pre := by simpa using hp
    subst e
    refine Ev.step (fun k => ?_) (by simpa using hr)
    simp only [remontoirref05_Right.l1]
    rw [if_neg (by omega)]
  | cons a p2 ih =>
    intro p1 hp
    have hpl : (p1.length : Int) < (pre.length : Int) := by rw [← hp]; simp; omega
    have hpl2 : (pre.length : Int) ≤ (l.length : Int) := by rw [hl]; simp; omega
    have e : rd_T63 l (p1.length : Int) = a := by rw [hl, ← hp, List.append_assoc]; exact getD_mid _ _ _ _
    have hao : okSec c a = true := hok a (by rw [← hp]; simp)
    have ha' := okSec_iff.mp hao
    have hb' := okSec_iff.mp hb
    have ih2 := ih (p1 ++ [a]) (by simpa using hp)
    have hw : wrap64 ((p1.length : Int) + 1) = (((p1 ++ [a]).length : Nat) : Int) := by rw [wrap_succ _ (by omega)]; simp
    have h2 := remontoirref05_Right.l2_ev c d t l (pre.length : Int) (p1.length : Int) a b hc hao hb (p2.all (fun a => fitsS a b) && r) (by rw [hw]; exact ih2) b.f2.toNat b.f1 (Int.le_refl _) (by omega)
    have ec : cm5 b.f1 (a.f1 + a.f2) b.f1 = 0 := by unfold cm5; omega
    have eo : ot5 b.f1 (a.f1 + a.f2) b.f1 = 0 := by unfold ot5; omega
    rw [ec, eo] at h2
    have hj : ∀ flag : Bool, Ev (fun k => remontoirref05_Right.j4 k (pre.length : Int) (p1.length : Int) flag c d t l b.f0 b.f1 b.f2 a.f0 a.f1 a.f2) (!flag && (!(decide (cm5 b.f1 (a.f1 + a.f2) (b.f1 + b.f2) > 0 ∧ (ot5 b.f1 (a.f1 + a.f2) (b.f1 + b.f2) > 0 ∨ a.f0 = b.f0))) && (p2.all (fun a => fitsS a b) && r))) := by
      intro flag
      cases flag with
      | true =>
        refine Ev.step (f := fun _ => some false) (fun k => ?_) (by simpa using Ev.now false)
        simp only [remontoirref05_Right.j4]
        rw [if_pos trivial]
      | false =>
        refine Ev.step (f := fun k => remontoirref05_Right.l2 k (pre.length : Int) (p1.length : Int) 0 0 b.f1 c d t l b.f0 b.f1 b.f2 a.f0 a.f1 a.f2) (fun k => ?_) ?_
        · simp only [remontoirref05_Right.j4]
          rw [if_neg (by simp)]
        · by_cases hq : cm5 b.f1 (a.f1 + a.f2) (b.f1 + b.f2) > 0 ∧ (ot5 b.f1 (a.f1 + a.f2) (b.f1 + b.f2) > 0 ∨ a.f0 = b.f0)
          · rw [if_pos hq] at h2; rw [decide_eq_true hq]; simpa using h2
          · rw [if_neg hq] at h2; rw [decide_eq_false hq]; simpa using h2
    have hfin : (a :: p2).all (fun a => fitsS a b) = (fitsS a b && p2.all (fun a => fitsS a b)) := by simp
    rw [hfin, fits5 c a b hao hb]
    by_cases q1 : b.f1 < a.f1
    · refine Ev.step (fun k => ?_) (by simpa [q1] using hj true)
      simp only [remontoirref05_Right.l1]
      rw [if_pos hpl, if_pos (by omega), if_pos (by omega), e, if_pos q1]
    · by_cases q2 : b.f1 = a.f1
      · have hq := hj (decide (b.f2 > a.f2))
        refine Ev.step (f := fun k => remontoirref05_Right.j4 k (pre.length : Int) (p1.length : Int) (decide (b.f2 > a.f2)) c d t l b.f0 b.f1 b.f2 a.f0 a.f1 a.f2) (fun k => ?_) ?_
        · simp only [remontoirref05_Right.l1]
          rw [if_pos hpl, if_pos (by omega), if_pos (by omega), e, if_neg q1, if_pos q2]
        · rw [decide_eq_false q1, decide_eq_true q2]
          simpa only [Bool.false_or, Bool.true_and, Bool.and_assoc] using hq
      · have hq := hj false
        refine Ev.step (f := fun k => remontoirref05_Right.j4 k (pre.length : Int) (p1.length : Int) false c d t l b.f0 b.f1 b.f2 a.f0 a.f1 a.f2) (fun k => ?_) ?_
        · simp only [remontoirref05_Right.l1]
          rw [if_pos hpl, if_pos (by omega), if_pos (by omega), e, if_neg q1, if_neg q2]
        · rw [decide_eq_false q1, decide_eq_false q2]
          simpa only [Bool.false_or, Bool.false_and, Bool.not_false, Bool.true_and, Bool.and_assoc] using hq
theorem remontoirref05_Right.l0_ev (c d t : Int) (hc1 : 1 ≤ c) (hc : c ≤ 200) (l : List (S63)) (hlen : (l.length : Int) ≤ 1000) :
    ∀ (rest pre : List (S63)), pre ++ rest = l → (∀ a ∈ pre, okSec c a = true) → Ev (fun k => remontoirref05_Right.l0 k (pre.length : Int) c d t l) (secsOk c pre rest) := by
  intro rest
  induction rest with
  | nil =>
    intro pre hp _
    have e : pre = l := by simpa using hp
    subst e
    refine Ev.step (f := fun _ => some true) (fun k => ?_) (Ev.now true)
    simp only [remontoirref05_Right.l0]
    rw [if_neg (by omega)]
  | cons b rest ih =>
    intro pre hp hok
    have hpl : (pre.length : Int) < (l.length : Int) := by rw [← hp]; simp; omega
    have e : rd_T63 l (pre.length : Int) = b := by rw [← hp]; exact getD_mid _ _ _ _
    have hj : ∀ flag : Bool, (flag = false → okSec c b = true) → (flag = true → okSec c b = false) → Ev (fun k => remontoirref05_Right.j2 k (pre.length : Int) flag c d t l b.f0 b.f1 b.f2) (secsOk c pre (b :: rest)) := by
      intro flag hf1 hf2
      cases flag with
      | true =>
        refine Ev.step (f := fun _ => some false) (fun k => ?_) (by simpa [secsOk, hf2 rfl] using Ev.now false)
        simp only [remontoirref05_Right.j2]
        rw [if_pos trivial]
      | false =>
        have hb := hf1 rfl
        have ih2 := ih (pre ++ [b]) (by simpa using hp) (fun x hx => by rcases List.mem_append.1 hx with h | h; exact hok x h; simp at h; subst h; exact hb)
        have hw : wrap64 ((pre.length : Int) + 1) = (((pre ++ [b]).length : Nat) : Int) := by rw [wrap_succ _ (by omega)]; simp
        have hin := remontoirref05_Right.l1_ev c d t l b pre (b :: rest) hc hp.symm hlen hb hok (secsOk c (pre ++ [b]) rest) (by rw [hw]; exact ih2) pre [] (by simp)
        refine Ev.step (fun k => ?_) (by simpa [secsOk, hb] using hin)
        simp only [remontoirref05_Right.j2]
        rw [if_neg (by simp)]
    have no : ∀ {q : Prop}, (okSec c b = true → ¬ q) → q → okSec c b = false := fun h hq => by
      cases hh : okSec c b with
      | false => rfl
      | true => exact absurd hq (h hh)
    by_cases q1 : b.f0 < 0
    · refine Ev.step (fun k => ?_) (hj true (fun h => by cases h) (fun _ => no (fun h => by have := okSec_iff.mp h; omega) q1))
      simp only [remontoirref05_Right.l0]
      rw [if_pos hpl, if_pos (by omega), e, if_pos q1]
    · by_cases q2 : b.f0 > 3
      · refine Ev.step (fun k => ?_) (hj true (fun h => by cases h) (fun _ => no (fun h => by have := okSec_iff.mp h; omega) q2))
        simp only [remontoirref05_Right.l0]
        rw [if_pos hpl, if_pos (by omega), e, if_neg q1, if_pos q2]
      · by_cases q3 : b.f1 < 0
        · refine Ev.step (fun k => ?_) (hj true (fun h => by cases h) (fun _ => no (fun h => by have := okSec_iff.mp h; omega) q3))
          simp only [remontoirref05_Right.l0]
          rw [if_pos hpl, if_pos (by omega), e, if_neg q1, if_neg q2, if_pos q3]
        · by_cases q4 : b.f2 < 1
          · refine Ev.step (fun k => ?_) (hj true (fun h => by cases h) (fun _ => no (fun h => by have := okSec_iff.mp h; omega) q4))
            simp only [remontoirref05_Right.l0]
            rw [if_pos hpl, if_pos (by omega), e, if_neg q1, if_neg q2, if_neg q3, if_pos q4]
          · by_cases q5 : b.f1 > c
            · refine Ev.step (fun k => ?_) (hj true (fun h => by cases h) (fun _ => no (fun h => by have := okSec_iff.mp h; omega) q5))
              simp only [remontoirref05_Right.l0]
              rw [if_pos hpl, if_pos (by omega), e, if_neg q1, if_neg q2, if_neg q3, if_neg q4, if_pos q5]
            · by_cases q6 : b.f2 > c
              · refine Ev.step (fun k => ?_) (hj true (fun h => by cases h) (fun _ => no (fun h => by have := okSec_iff.mp h; omega) q6))
                simp only [remontoirref05_Right.l0]
                rw [if_pos hpl, if_pos (by omega), e, if_neg q1, if_neg q2, if_neg q3, if_neg q4, if_neg q5, if_pos q6]
              · refine Ev.step (fun k => ?_) (hj (decide (b.f1 + b.f2 > c)) (fun h => ?_) (fun h => no (q := b.f1 + b.f2 > c) (fun h => by have := okSec_iff.mp h; omega) (of_decide_eq_true h)))
                · simp only [remontoirref05_Right.l0]
                  rw [if_pos hpl, if_pos (by omega), e, if_neg q1, if_neg q2, if_neg q3, if_neg q4, if_neg q5, if_neg q6, w64 (by omega)]
                · rw [decide_eq_false_iff_not] at h
                  rw [okSec_iff]; omega
theorem remontoirref05_Right.ev (c d t : Int) (l : List (S63)) : Ev (fun k => remontoirref05_Right.f k c d t l) (okTask c d t l) := by
  have hj : ∀ flag : Bool, (flag = true → okTask c d t l = false) → (flag = false → 1 ≤ c ∧ c ≤ d ∧ d ≤ t ∧ t ≤ 200 ∧ l.length ≤ 4) → Ev (fun k => remontoirref05_Right.j0 k flag c d t l) (okTask c d t l) := by
    intro flag h1 h2
    cases flag with
    | true =>
      refine Ev.step (f := fun _ => some false) (fun k => ?_) (by rw [h1 rfl]; exact Ev.now false)
      simp only [remontoirref05_Right.j0]
      rw [if_pos trivial]
    | false =>
      obtain ⟨a1, a2, a3, a4, a5⟩ := h2 rfl
      have h0 := remontoirref05_Right.l0_ev c d t a1 (by omega) l (by omega) l [] rfl (by simp)
      have e : okTask c d t l = secsOk c [] l := by
        unfold okTask
        rw [decide_eq_true a1, decide_eq_true a2, decide_eq_true a3, decide_eq_true a4, decide_eq_true a5]; simp
      rw [e]
      refine Ev.step (fun k => ?_) h0
      simp only [remontoirref05_Right.j0]
      rw [if_neg (by simp)]
      try rfl
  have no : ∀ {q : Prop}, (okTask c d t l = true → ¬ q) → q → okTask c d t l = false := fun h hq => by
    cases hh : okTask c d t l with
    | false => rfl
    | true => exact absurd hq (h hh)
  by_cases q1 : c < 1
  · refine Ev.congr (fun k => ?_) (hj true (fun _ => no (fun h => by have := okTask_nums h; omega) q1) (fun h => by cases h))
    unfold remontoirref05_Right.f; rw [if_pos q1]
  · by_cases q2 : d < c
    · refine Ev.congr (fun k => ?_) (hj true (fun _ => no (fun h => by have := okTask_nums h; omega) q2) (fun h => by cases h))
      unfold remontoirref05_Right.f; rw [if_neg q1, if_pos q2]
    · by_cases q3 : t < d
      · refine Ev.congr (fun k => ?_) (hj true (fun _ => no (fun h => by have := okTask_nums h; omega) q3) (fun h => by cases h))
        unfold remontoirref05_Right.f; rw [if_neg q1, if_neg q2, if_pos q3]
      · by_cases q4 : t > 200
        · refine Ev.congr (fun k => ?_) (hj true (fun _ => no (fun h => by have := okTask_nums h; omega) q4) (fun h => by cases h))
          unfold remontoirref05_Right.f; rw [if_neg q1, if_neg q2, if_neg q3, if_pos q4]
        · refine Ev.congr (fun k => ?_) (hj (decide ((l.length : Int) > 4)) (fun h => no (q := (l.length : Int) > 4) (fun h => by have := okTask_nums h; omega) (of_decide_eq_true h)) (fun h => ?_))
          · unfold remontoirref05_Right.f; rw [if_neg q1, if_neg q2, if_neg q3, if_neg q4]
          · rw [decide_eq_false_iff_not] at h; omega
end Go.Proofs.Ytljgloljncokeaa.PQa
