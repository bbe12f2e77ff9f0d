-- Written by a program of this session (pp.py, over the kit's print) out of the translation; functions with closures by hand.
import Derived.Test.YtljgloljncokeaaQa0
import Derived.Test.YtljgloljncokeaaQa2
import Derived.Test.YtljgloljncokeaaQa3
import Derived.Test.YtljgloljncokeaaQa4
namespace Go.Proofs.Ytljgloljncokeaa.PQa
open Go.RowKit Go.Proofs.YtljgloljncokeaaW.PrintWords Go.Proofs.YtljgloljncokeaaW.PrintLast Go.Proofs.YtljgloljncokeaaW.PrintMore
attribute [local go_sem] max2_int min2_int max_two min_two max_three min_three max_four min_four   -- for this text's walks alone
set_option linter.unusedVariables false
set_option linter.unusedSimpArgs false
/-! ### demand_Bound: function 17 (by hand) -/
def jobsN (d t x : Int) : Int := if x < d then 0 else (x - d) / t + 1
def dbf (l : List (S41)) (x : Int) : Int := (l.map fun s => s.f0 * jobsN s.f1 s.f2 x).sum
theorem jobsN_bd {d t x : Int} (h0 : 0 ≤ d) (ht : 1 ≤ t) (hx : 0 ≤ x) : 0 ≤ jobsN d t x ∧ jobsN d t x ≤ x + 1 := by
  unfold jobsN
  split
  · omega
  · have hq0 : 0 ≤ (x - d) / t := Int.ediv_nonneg (by omega) (by omega)
    have hq1 : (x - d) / t ≤ x - d := Int.ediv_le_self _ (by omega)
    omega
theorem dbf_bd {x : Int} (hx : 0 ≤ x) : ∀ {l : List (S41)}, (∀ s ∈ l, okT s = true) → 0 ≤ dbf l x ∧ dbf l x ≤ l.length * (200 * (x + 1))
  | [], _ => by simp [dbf]
  | s :: l, h => by
    have ih := dbf_bd hx (l := l) (fun y hy => h y (List.mem_cons_of_mem _ hy))
    have hs := okTask_nums (h s List.mem_cons_self)
    have hj := jobsN_bd (d := s.f1) (t := s.f2) (x := x) (by omega) (by omega) hx
    have e : dbf (s :: l) x = s.f0 * jobsN s.f1 s.f2 x + dbf l x := by simp [dbf]
    have h1 : 0 ≤ s.f0 * jobsN s.f1 s.f2 x := Int.mul_nonneg (by omega) hj.1
    have h2 : s.f0 * jobsN s.f1 s.f2 x ≤ 200 * (x + 1) := Int.mul_le_mul (by omega) hj.2 hj.1 (by omega)
    have h3 : ((s :: l).length : Int) * (200 * (x + 1)) = l.length * (200 * (x + 1)) + 200 * (x + 1) := by
      rw [List.length_cons]; push_cast; rw [Int.add_mul]; simp
    omega
theorem dbf_append (l m : List (S41)) (x : Int) : dbf (l ++ m) x = dbf l x + dbf m x := by simp [dbf]
theorem dbf_one (s : S41) (x : Int) : dbf [s] x = s.f0 * jobsN s.f1 s.f2 x := by simp [dbf]
def demand_Bound.f (l0 : List (S41)) (a1 : Int) : Option (Int × Int) := if okAll l0 = true ∧ 0 ≤ a1 ∧ a1 ≤ 1125899906842624 then some (dbf l0 a1, 0) else none
set_option maxHeartbeats 8000000 in
set_option maxRecDepth 100000 in
theorem demand_Bound.calls (A0 : Option Addr) (c0 : Nat) (l0 : List (S41)) (a1 : Int) (r1 r2 : Int) (w : World) (hr0 : Kd.C k41 w A0 l0.length l0) (hc0 : l0.length ≤ c0) (h : demand_Bound.f l0 a1 = some (r1, r2)) :
    Calls Try.prog 17 #[.slice A0 l0.length c0, .int .i64 a1] w fun e w' => e = .returned (.tuple #[.int .i64 r1, .int .i64 r2]) ∧ Below w.heap.size w w' := by
  have hu41 := Try.underlying41
  unfold demand_Bound.f at h
  split at h
  case isFalse => cases h
  case isTrue hyp =>
  obtain ⟨hok, hx0, hx1⟩ := hyp
  obtain ⟨rfl, rfl⟩ := Prod.mk.inj (Option.some.inj h)
  clear h
  have hok2 := hok
  simp only [okAll, Bool.and_eq_true, List.all_eq_true, decide_eq_true_eq] at hok2
  obtain ⟨hokT, hl8⟩ := hok2
  obtain ⟨K, hK⟩ := (task_All.ev l0 (by omega)).rounds
  rw [hok] at hK
  have HK := Aside0.mk hK
  have HR0 := Aside0.mk hr0
  have HC0 := Aside0.mk hc0
  have HT := Aside0.mk hokT
  clear hK hok hr0 hc0 hokT
  have d1 : decide (a1 < 0) = false := decide_eq_false (by omega)
  have d2 : decide (4611686018427387903 < a1) = false := decide_eq_false (by omega)
  go_enter Try.func17, Try.ntmps17
  go_wp2_with fail
  refine (task_All.calls K A0 c0 l0 true _ HR0.out HC0.out HK.out).mono ?_
  rintro e w1 ⟨rfl, hb1⟩
  have HB := Aside0.mk hb1
  clear hb1
  have HGS := Aside0.mk (show w.heap.size ≤ w1.heap.size from HB.out.size)
  go_wp2_with fail
  go_loopg [25] l0.length (fun kq v25 w' => ∃ (i : Int) (pre rest : List (S41)), v25 = .int .i64 i ∧ Aside0 (l0 = pre ++ rest ∧ i = pre.length ∧ kq = rest.length) ∧ Aside0 (w'.heap[w1.heap.size]? = some (.cells #[.int .i64 (dbf pre a1)] 3 (0, 0))) ∧ Aside0 (w'.heap[w1.heap.size + 1]? = some (.cells #[.int .i64 0] 27 (0, 0))) ∧ Aside0 (Below w.heap.size w w'))
  case atStart =>
    exact ⟨0, [], l0, rfl, ⟨rfl, rfl, rfl⟩, ⟨by simpa [dbf] using blk_alloc (blk_new w1 _) _⟩, ⟨by simpa using blk_new (w1.alloc (.cells #[.int .i64 0] 3)) (.cells #[.int .i64 0] 27)⟩, ⟨below_alloc (below_alloc HB.out _) _⟩⟩
  case round =>
    obtain ⟨i, pre, rest, rfl, HI, HS, HTb, HBr⟩ := hrel
    obtain ⟨hI1, hI2, hI3⟩ := HI.out
    cases rest with
    | nil =>
      have e1 : dbf l0 a1 = dbf pre a1 := by rw [hI1]; simp
      have E1 := Aside0.mk e1
      have c1 : decide (i < (l0.length : Int)) = false := decide_eq_false (by rw [hI1]; simp; omega)
      have cs := blk_cell0 HTb.out
      have cs2 := blk_cell0 HS.out
      clear hI1 hI2 hI3 e1
      go_wp2_with fail
      go_ret2
      exact ⟨by rw [E1.out]; rfl, HBr.out⟩
    | cons a rest =>
      have hi0 : 0 ≤ i := by omega
      have hi1 : i < (l0.length : Int) := by rw [hI1]; simp; omega
      have hrd : rd_T41 l0 i = a := by rw [hI1, hI2]; exact getD_mid _ _ _ _
      obtain ⟨ad, A3, c3, ea, x0, x1, x2, x3, hl3, hi3⟩ := at_T41 HR0.out i hi0 hi1
      cases ea
      rw [hrd] at x0 x1 x2 x3 hl3 hi3
      replace x0 := (HBr.out.cell (World.block_lt_of_cell? w _ x0)).trans x0
      replace x1 := (HBr.out.cell (World.block_lt_of_cell? w _ x1)).trans x1
      replace x2 := (HBr.out.cell (World.block_lt_of_cell? w _ x2)).trans x2
      replace x3 := (HBr.out.cell (World.block_lt_of_cell? w _ x3)).trans x3
      have HR3 := Aside0.mk hi3
      have HC3 := Aside0.mk hl3
      have c1 : decide (i < (l0.length : Int)) = true := decide_eq_true hi1
      have haT : okT a = true := HT.out a (by rw [hI1]; simp)
      have han := okTask_nums haT
      have hpT : ∀ s ∈ pre, okT s = true := fun s hs => HT.out s (by rw [hI1]; simp [hs])
      have hpl : pre.length ≤ 8 := by have := congrArg List.length hI1; simp at this; omega
      have hpb := dbf_bd hx0 hpT
      have hjb := jobsN_bd (d := a.f1) (t := a.f2) (x := a1) (by omega) (by omega) hx0
      have hm1 : 0 ≤ a.f0 * jobsN a.f1 a.f2 a1 := Int.mul_nonneg (by omega) hjb.1
      have hm2 : a.f0 * jobsN a.f1 a.f2 a1 ≤ 200 * (a1 + 1) := Int.mul_le_mul (by omega) hjb.2 hjb.1 (by omega)
      have hpb2 : dbf pre a1 ≤ 8 * (200 * (a1 + 1)) := Int.le_trans hpb.2 (Int.mul_le_mul_of_nonneg_right (by omega) (by omega))
      have hj : demand_jobs.f 3 a.f0 a.f1 a.f2 a.f3 a1 = some (jobsN a.f1 a.f2 a1) := demand_jobs.ev 0 a.f0 a.f1 a.f2 a.f3 a1 (by omega) (by omega) (by omega)
      have hM := arith_Mul.ev 0 a.f0 (jobsN a.f1 a.f2 a1) (by omega) (by omega) (by omega)
      have hA := arith_Add.ev 0 (dbf pre a1) (a.f0 * jobsN a.f1 a.f2 a1) hpb.1 hm1 (by omega)
      have es : dbf (pre ++ [a]) a1 = dbf pre a1 + a.f0 * jobsN a.f1 a.f2 a1 := by rw [dbf_append, dbf_one]
      rw [← es] at hA
      have HJ := Aside0.mk hj
      have HM := Aside0.mk hM
      have HA := Aside0.mk hA
      have hwr : wrap64 (i + 1) = i + 1 := w64 (by omega)
      have HI0 := Aside0.mk hI3
      have HI := Aside0.mk (show l0 = (pre ++ [a]) ++ rest ∧ i + 1 = ((pre ++ [a]).length : Nat) from ⟨by rw [hI1]; simp, by rw [hI2]; simp⟩)
      have hi2 : i + 1 ≤ 9 := by omega
      clear hI1 hI2 hI3 hrd hi3 hl3 hj hM hA es haT han hpT hpl hpb hjb hm1 hm2 hpb2 hwr
      go_wp2_with fail
      obtain ⟨W, hW⟩ : ∃ W : World, W = (wr.alloc (Obj.cells #[Value.int IntKind.i64 a.f0, Value.int IntKind.i64 a.f1, Value.int IntKind.i64 a.f2, Value.slice A3 a.f3.length c3] 41)) := ⟨_, rfl⟩
      rw [← hW]
      have HX := Aside0.mk (show W.heap[wr.heap.size]? = some (Obj.cells #[Value.int IntKind.i64 a.f0, Value.int IntKind.i64 a.f1, Value.int IntKind.i64 a.f2, Value.slice A3 a.f3.length c3] 41 (0, 0)) from by rw [hW]; exact blk_new _ _)
      have HSW := Aside0.mk (show W.heap[w1.heap.size]? = some (.cells #[.int .i64 (dbf pre a1)] 3 (0, 0)) from by rw [hW]; exact blk_alloc HS.out _)
      have HTW := Aside0.mk (show W.heap[w1.heap.size + 1]? = some (.cells #[.int .i64 0] 27 (0, 0)) from by rw [hW]; exact blk_alloc HTb.out _)
      have HBW := Aside0.mk (show Below w.heap.size w W from by rw [hW]; exact below_alloc HBr.out _)
      have HRW := Aside0.mk (show Kd.C k63 W A3 a.f3.length a.f3 from Kd.C_below HR3.out HBW.out)
      have hne : w1.heap.size ≠ wr.heap.size ∧ w1.heap.size + 1 ≠ wr.heap.size := ⟨by have := blk_lt HS.out; omega, by have := blk_lt HTb.out; omega⟩
      have HNE := Aside0.mk hne
      have k0 : W.drew.cell? ⟨wr.heap.size, 0, none⟩ = some (.int .i64 a.f0) := (blk_cell HX.out 0).trans rfl
      have k1 : W.drew.cell? ⟨wr.heap.size, 1, none⟩ = some (.int .i64 a.f1) := (blk_cell HX.out 1).trans rfl
      have k2 : W.drew.cell? ⟨wr.heap.size, 2, none⟩ = some (.int .i64 a.f2) := (blk_cell HX.out 2).trans rfl
      have k3 : W.drew.cell? ⟨wr.heap.size, 3, none⟩ = some (.slice A3 a.f3.length c3) := (blk_cell HX.out 3).trans rfl
      clear x0 x1 x2 x3 hW hne HBr HS HTb
      go_region_held3 (fun w' => w'.cell? ⟨wr.heap.size, 0, none⟩ = some (.int .i64 a.f0) ∧ w'.cell? ⟨wr.heap.size, 1, none⟩ = some (.int .i64 a.f1) ∧ w'.cell? ⟨wr.heap.size, 2, none⟩ = some (.int .i64 a.f2) ∧ w'.cell? ⟨wr.heap.size, 3, none⟩ = some (.slice A3 a.f3.length c3))
        (first | exact ⟨k0, k1, k2, k3⟩ | exact ⟨m0, m1, m2, m3⟩ | exact ⟨n0, n1, n2, n3⟩)
        (first
          | (go_at_call 33
             refine (demand_jobs.calls 3 a.f0 a.f1 a.f2 A3 c3 a.f3 a1 (jobsN a.f1 a.f2 a1) _ (Kd.C_drew HRW.out) HC3.out HJ.out).mono ?_
             rintro e w2 ⟨rfl, hb2⟩
             have m0 := pw_cell_below hb2 k0
             have m1 := pw_cell_below hb2 k1
             have m2 := pw_cell_below hb2 k2
             have m3 := pw_cell_below hb2 k3
             have HS2 := Aside0.mk (blk_below (blk_drew HSW.out) hb2)
             have HT2 := Aside0.mk (blk_below (blk_drew HTW.out) hb2)
             have HB2 := Aside0.mk (below_step (below_drew1 HBW.out) hb2)
             have HX2 := Aside0.mk (blk_below (blk_drew HX.out) hb2)
             clear hb2)
          | (go_at_call 31
             refine (demand_Bound_1.calls 3 a.f0 (jobsN a.f1 a.f2 a1) w1.heap.size (w1.heap.size + 1) (dbf pre a1) _ _ w _ HB2.out HGS.out (Nat.le_succ_of_le HGS.out) (by omega) HS2.out HT2.out HM.out HA.out).mono ?_
             rintro e w3 ⟨rfl, HS3, HT3, HB3, hK3⟩
             have HX3 := blk_kept HX2.out hK3 (fun hh => hh.elim (fun q => HNE.out.1 q.symm) (fun q => HNE.out.2 q.symm))
             have n0 : w3.cell? ⟨wr.heap.size, 0, none⟩ = some (.int .i64 a.f0) := (blk_cell HX3 0).trans rfl
             have n1 : w3.cell? ⟨wr.heap.size, 1, none⟩ = some (.int .i64 a.f1) := (blk_cell HX3 1).trans rfl
             have n2 : w3.cell? ⟨wr.heap.size, 2, none⟩ = some (.int .i64 a.f2) := (blk_cell HX3 2).trans rfl
             have n3 : w3.cell? ⟨wr.heap.size, 3, none⟩ = some (.slice A3 a.f3.length c3) := (blk_cell HX3 3).trans rfl
             have HS3' := Aside0.mk HS3
             have HT3' := Aside0.mk HT3
             have HB3' := Aside0.mk HB3
             clear HS3 HT3 HB3 hK3 HX3))
      go_wp2_with fail
      go_roundg rest.length
      case measure => have := HI0.out; simp at this; omega
      case rel => exact ⟨i + 1, pre ++ [a], rest, (by first | rfl | (simp; done) | (simp [*]; done)), ⟨HI.out.1, HI.out.2, rfl⟩, HS3', HT3', HB3'⟩
/-! ### task_Uses: function 48 -/
def task_Uses.l0 : Nat → Int → List (S63) → Int → Int → Option (Bool)
 | 0, _, _, _, _ => none
 | k + 1, x1, x11, x12, x13 => if x13 < x12 then (if 0 ≤ x13 then (if x13 < (x11.length : Int) then (if ((rd_T63 x11 x13).f0) = x1 then (some true) else (task_Uses.l0 k x1 x11 x12 (wrap64 (x13 + 1)))) else (none)) else (none)) else (some false)
def task_Uses.f (k : Nat) (a0_0 : Int) (a0_1 : Int) (a0_2 : Int) (l0_3 : List (S63)) (a1 : Int) : Option (Bool) := (task_Right.f k a0_0 a0_1 a0_2 l0_3).bind fun t159 => (if t159 = true then (task_Uses.l0 k a1 l0_3 (l0_3.length : Int) 0) else (some false))
set_option maxHeartbeats 8000000 in
set_option maxRecDepth 100000 in
theorem task_Uses.calls (k : Nat) (a0_0 : Int) (a0_1 : Int) (a0_2 : Int) (A0_3 : Option Addr) (c0_3 : Nat) (l0_3 : List (S63)) (a1 : Int) (r : Bool) (w : World) (hr0_3 : Kd.C k63 w A0_3 l0_3.length l0_3) (hc0_3 : l0_3.length ≤ c0_3) (h : task_Uses.f k a0_0 a0_1 a0_2 l0_3 a1 = some r) :
  Calls Try.prog 48 #[.agg #[.int .i64 a0_0, .int .i64 a0_1, .int .i64 a0_2, .slice A0_3 l0_3.length c0_3], .int .i64 a1] w fun e w' => e = .returned (.bool r) ∧ Below w.heap.size w w' := by
 have hu41 := Try.underlying41
 have hu63 := Try.underlying63
 have HR0_3 := Aside0.mk hr0_3
 have HC0_3 := Aside0.mk hc0_3
 clear hr0_3 hc0_3
 have HB := Aside0.mk (Below.refl w.heap.size w)
 have H : ((task_Right.f k a0_0 a0_1 a0_2 l0_3).bind fun t159 => (if t159 = true then (task_Uses.l0 k a1 l0_3 (l0_3.length : Int) 0) else (some false))) = some r := h
 clear h
 replace H := Option.bind_eq_some_iff.mp H
 obtain ⟨t159, A30, H⟩ := H
 replace H : (if t159 = true then (task_Uses.l0 k a1 l0_3 (l0_3.length : Int) 0) else (some false)) = some r := H
 have A3 := Aside0.mk A30
 clear A30
 by_cases c4 : t159 = true
 ·subst c4
  have H1 : (task_Uses.l0 k a1 l0_3 (l0_3.length : Int) 0) = some r := by rw [if_pos rfl] at H; exact H
  clear H
  have H := H1
  clear H1
  have H' := Aside0.mk H
  clear H
  go_enter Try.func48, Try.ntmps48
  go_wp2_with (first | ((with_reducible refine gate_dst (N := 2) rfl ?_); refine box_event ?hg (N := 2) ?hd (cs := #[.int .i64 a0_0, .int .i64 a0_1, .int .i64 a0_2, .slice A0_3 l0_3.length c0_3]) (t := 41) ?hr ?_; (case hd => rfl); (case hg => rfl); (case hr => first | (go_simp; done) | (go_simp; rfl)); intro gb158 hg w5 hbox hb; have n0_ := Aside0.mk (below_step (by repeat (first | (with_reducible first | exact HB.out | apply below_alloc | apply pw_below_drewN | apply below_drew1) | exact HB.out)) hb); have n1_ := Aside0.mk (hbox); have n2_ := Aside0.mk ((by rw [hg]; exact (below_size (by repeat (first | (with_reducible first | exact HB.out | apply below_alloc | apply pw_below_drewN | apply below_drew1) | exact HB.out))) : w.heap.size ≤ gb158)); have n3_ := Aside0.mk ((by rw [hg]; exact (below_size (by repeat (first | (with_reducible first | exact HB.out | apply below_alloc | apply pw_below_drewN | apply below_drew1) | exact HB.out))) : w.heap.size ≤ gb158)); clear HB; have HB := n0_; have BK158 := n1_; have GW158 := n2_; have GE158 := n3_; clear n0_ n1_ n2_ n3_; clear hb hbox hg; have hcz6_0 : w5.cell? ⟨gb158, 0, none⟩ = some (.int .i64 a0_0) := (blk_cell BK158.out 0).trans rfl; have hcz6_1 : w5.cell? ⟨gb158, 1, none⟩ = some (.int .i64 a0_1) := (blk_cell BK158.out 1).trans rfl; have hcz6_2 : w5.cell? ⟨gb158, 2, none⟩ = some (.int .i64 a0_2) := (blk_cell BK158.out 2).trans rfl; have hcz6_3 : w5.cell? ⟨gb158, 3, none⟩ = some (.slice A0_3 l0_3.length c0_3) := (blk_cell BK158.out 3).trans rfl; have hfz6_0 := blk_frozen BK158.out 0; have hfz6_1 := blk_frozen BK158.out 1; have hfz6_2 := blk_frozen BK158.out 2; have hfz6_3 := blk_frozen BK158.out 3) | ((with_reducible refine gate_callee (f := 43) rfl ?_); refine goesL_ (some 8) rfl rfl Try.func43 (by kernel_rfl) rfl #[.agg #[.int .i64 a0_0, .int .i64 a0_1, .int .i64 a0_2, .slice A0_3 l0_3.length c0_3]] rfl (by (try simp only [List.map_toArray, List.map_cons, List.map_nil]); first | done | rfl | (simp only [List.length_drop, List.length_take]; rfl)) ?_; (with_reducible refine (task_Right.calls k a0_0 a0_1 a0_2 _ _ l0_3 true _ ?side1 ?side2 A3.out).mono ?_); (case side1 => repeat (first | exact (Kd.C_below HR0_3.out HB.out) | (with_reducible refine Kd.C_alloc ?_ _) | (with_reducible refine Kd.C_drewN ?_ _) | (with_reducible refine Kd.C_drew ?_))); (case side2 => exact HC0_3.out); rintro e w7 ⟨rfl, hb⟩; refine ⟨_, rfl, ?_⟩; have n0_ := Aside0.mk (blk_below (g := gb158) (o := .cells #[.int .i64 a0_0, .int .i64 a0_1, .int .i64 a0_2, .slice A0_3 l0_3.length c0_3] 41 (0, 0)) (by (with_reducible repeat (first | refine blk_drewN ?_ _ | refine blk_drew ?_ | refine blk_alloc ?_ _)); exact BK158.out) hb); have n1_ := Aside0.mk (below_step (by repeat (first | (with_reducible first | exact HB.out | apply below_alloc | apply pw_below_drewN | apply below_drew1 | refine below_set ?_ GE158.out) | exact HB.out)) hb); clear BK158; clear HB; have BK158 := n0_; have HB := n1_; clear n0_ n1_; (try clear hb); (try clear hb2); (try clear hk); (try clear hi); have hcz8_0 : w7.cell? ⟨gb158, 0, none⟩ = some (.int .i64 a0_0) := (blk_cell BK158.out 0).trans rfl; have hcz8_1 : w7.cell? ⟨gb158, 1, none⟩ = some (.int .i64 a0_1) := (blk_cell BK158.out 1).trans rfl; have hcz8_2 : w7.cell? ⟨gb158, 2, none⟩ = some (.int .i64 a0_2) := (blk_cell BK158.out 2).trans rfl; have hcz8_3 : w7.cell? ⟨gb158, 3, none⟩ = some (.slice A0_3 l0_3.length c0_3) := (blk_cell BK158.out 3).trans rfl; have hfz8_0 := blk_frozen BK158.out 0; have hfz8_1 := blk_frozen BK158.out 1; have hfz8_2 := blk_frozen BK158.out 2; have hfz8_3 := blk_frozen BK158.out 3))
  go_loopg [13] k (fun kq v13 w' => ∃ (x13_1 : Int), v13 = .int .i64 x13_1 ∧ Aside0 (task_Uses.l0 kq a1 l0_3 (l0_3.length : Int) x13_1 = some r) ∧ Aside0 (kq ≤ k) ∧ Aside0 (w'.heap[gb158]? = some (.cells #[.int .i64 a0_0, .int .i64 a0_1, .int .i64 a0_2, (.slice A0_3 l0_3.length c0_3)] 41 (0, 0))) ∧ Aside0 (Below w.heap.size w w'))
  case atStart => exact ⟨(0), (by first | rfl | (simp; done) | (simp [*]; done)), H', ⟨Nat.le_refl _⟩, ⟨by (with_reducible repeat (first | refine blk_drewN ?_ _ | refine blk_drew ?_ | refine blk_alloc ?_ _)); exact BK158.out⟩, ⟨by repeat (first | (with_reducible first | exact HB.out | apply below_alloc | apply pw_below_drewN | apply below_drew1 | refine below_set ?_ GE158.out) | exact HB.out)⟩⟩
  case round =>
   clear H'
   (try clear p2); (try clear c4); (try clear hcz6_0); (try clear hcz6_1); (try clear hcz6_2); (try clear hcz6_3); (try clear hcz8_0); (try clear hcz8_1); (try clear hcz8_2); (try clear hcz8_3); (try clear hfz6_0); (try clear hfz6_1); (try clear hfz6_2); (try clear hfz6_3); (try clear hfz8_0); (try clear hfz8_1); (try clear hfz8_2); (try clear hfz8_3)
   obtain ⟨x13_1, rfl, HA, HK1, BK158, HB⟩ := hrel
   cases gk with
   | zero => exact absurd HA.out (by simp [task_Uses.l0])
   | succ k1 =>
    have H := HA.out
    clear HA
    simp only [task_Uses.l0] at H
    by_cases c9 : x13_1 < (l0_3.length : Int)
    ·rw [if_pos c9] at H
     have c9b0 : decide (x13_1 < (l0_3.length : Int)) = true := decide_eq_true c9
     clear c9
     by_cases c10 : 0 ≤ x13_1
     ·rw [if_pos c10] at H
      have c10b0 : decide (0 ≤ x13_1) = true := decide_eq_true c10
      clear c10
      by_cases c11 : x13_1 < (l0_3.length : Int)
      ·rw [if_pos c11] at H
       have c11b0 : decide (x13_1 < (l0_3.length : Int)) = true := decide_eq_true c11
       clear c11
       by_cases c12 : ((rd_T63 l0_3 x13_1).f0) = a1
       ·rw [if_pos c12] at H
        have c12b0 : (((rd_T63 l0_3 x13_1).f0) == a1) = true := beq_iff_eq.mpr c12
        have c12b1 : (((rd_T63 l0_3 x13_1).f0) != a1) = false := bne_eq_false_iff_eq.mpr c12
        clear c12
        obtain rfl := Option.some.inj H
        have p160 : 0 ≤ (x13_1 : Int) := of_decide_eq_true (by first | (with_reducible assumption) | assumption)
        have q160 : x13_1 < (l0_3.length : Int) := of_decide_eq_true (by first | (with_reducible assumption) | assumption)
        obtain ⟨ad160, e160, hx160_0, hx160_1, hx160_2⟩ := at_T63 HR0_3.out x13_1 p160 q160
        cases e160
        replace hx160_0 := (HB.out.cell (World.block_lt_of_cell? w _ hx160_0)).trans hx160_0
        replace hx160_1 := (HB.out.cell (World.block_lt_of_cell? w _ hx160_1)).trans hx160_1
        replace hx160_2 := (HB.out.cell (World.block_lt_of_cell? w _ hx160_2)).trans hx160_2
        replace p160 := eq_true p160
        replace q160 := eq_true q160
        go_wp2_with (first | ((with_reducible refine gate_dst (N := 6) rfl ?_); refine box_event ?hg (N := 6) ?hd (cs := #[.int .i64 0, .int .i64 0, .int .i64 0]) (t := 63) ?hr ?_; (case hd => rfl); (case hg => rfl); (case hr => first | (go_simp; done) | (go_simp; rfl)); intro gb161 hg w13 hbox hb; have n0_ := Aside0.mk (blk_below (g := gb158) (o := .cells #[.int .i64 a0_0, .int .i64 a0_1, .int .i64 a0_2, .slice (some ad160) l0_3.length c0_3] 41 (0, 0)) (by (with_reducible repeat (first | refine blk_drewN ?_ _ | refine blk_drew ?_ | refine blk_alloc ?_ _)); exact BK158.out) hb); have n1_ := Aside0.mk (below_step (by repeat (first | (with_reducible first | exact HB.out | apply below_alloc | apply pw_below_drewN | apply below_drew1 | refine below_set ?_ GE158.out) | exact HB.out)) hb); have n2_ := Aside0.mk (hbox); have n3_ := Aside0.mk ((by rw [hg]; exact (below_size (by repeat (first | (with_reducible first | exact HB.out | apply below_alloc | apply pw_below_drewN | apply below_drew1 | refine below_set ?_ GE158.out) | exact HB.out))) : w.heap.size ≤ gb161)); have n4_ := Aside0.mk ((by rw [hg]; exact (below_size (by repeat (first | (with_reducible first | exact HB.out | apply below_alloc | apply pw_below_drewN | apply below_drew1 | refine below_set ?_ GE158.out) | exact HB.out))) : w.heap.size ≤ gb161)); have n5_ := Aside0.mk ((by rw [hg]; exact Nat.ne_of_lt (blk_lt (g := gb158) (o := .cells #[.int .i64 a0_0, .int .i64 a0_1, .int .i64 a0_2, .slice (some ad160) l0_3.length c0_3] 41 (0, 0)) (by (with_reducible repeat (first | refine blk_drewN ?_ _ | refine blk_drew ?_ | refine blk_alloc ?_ _)); exact BK158.out)) : gb158 ≠ gb161)); have n6_ := Aside0.mk ((by rw [hg]; exact Nat.ne_of_gt (blk_lt (g := gb158) (o := .cells #[.int .i64 a0_0, .int .i64 a0_1, .int .i64 a0_2, .slice (some ad160) l0_3.length c0_3] 41 (0, 0)) (by (with_reducible repeat (first | refine blk_drewN ?_ _ | refine blk_drew ?_ | refine blk_alloc ?_ _)); exact BK158.out)) : gb161 ≠ gb158)); clear BK158; clear HB; have BK158 := n0_; have HB := n1_; have BK161 := n2_; have GW161 := n3_; have GE161 := n4_; have NB158_161 := n5_; have NB161_158 := n6_; clear n0_ n1_ n2_ n3_ n4_ n5_ n6_; clear hb hbox hg; have hnb14 := NB161_158.out; have hnc14 := NB158_161.out; have hcz15_0 : w13.cell? ⟨gb161, 0, none⟩ = some (.int .i64 0) := (blk_cell BK161.out 0).trans rfl; have hcz15_1 : w13.cell? ⟨gb161, 1, none⟩ = some (.int .i64 0) := (blk_cell BK161.out 1).trans rfl; have hcz15_2 : w13.cell? ⟨gb161, 2, none⟩ = some (.int .i64 0) := (blk_cell BK161.out 2).trans rfl; have hfz15_0 := blk_frozen BK161.out 0; have hfz15_1 := blk_frozen BK161.out 1; have hfz15_2 := blk_frozen BK161.out 2))
        go_ret
        exact ⟨by first | rfl | (simp [errW_none, errW_some] <;> rfl) | (simp [*, errW_none, errW_some] <;> rfl), by repeat (first | (with_reducible first | exact HB.out | apply below_alloc | apply pw_below_drewN | apply below_drew1 | refine below_set ?_ GE158.out | refine below_set ?_ GE161.out) | exact HB.out)⟩
       ·rw [if_neg c12] at H
        have c12b0 : (((rd_T63 l0_3 x13_1).f0) == a1) = false := beq_eq_false_iff_ne.mpr c12
        have c12b1 : (((rd_T63 l0_3 x13_1).f0) != a1) = true := bne_iff_ne.mpr c12
        have H' := Aside0.mk H
        clear H
        have p160 : 0 ≤ (x13_1 : Int) := of_decide_eq_true (by first | (with_reducible assumption) | assumption)
        have q160 : x13_1 < (l0_3.length : Int) := of_decide_eq_true (by first | (with_reducible assumption) | assumption)
        obtain ⟨ad160, e160, hx160_0, hx160_1, hx160_2⟩ := at_T63 HR0_3.out x13_1 p160 q160
        cases e160
        replace hx160_0 := (HB.out.cell (World.block_lt_of_cell? w _ hx160_0)).trans hx160_0
        replace hx160_1 := (HB.out.cell (World.block_lt_of_cell? w _ hx160_1)).trans hx160_1
        replace hx160_2 := (HB.out.cell (World.block_lt_of_cell? w _ hx160_2)).trans hx160_2
        replace p160 := eq_true p160
        replace q160 := eq_true q160
        go_wp2_with (first | ((with_reducible refine gate_dst (N := 6) rfl ?_); refine box_event ?hg (N := 6) ?hd (cs := #[.int .i64 0, .int .i64 0, .int .i64 0]) (t := 63) ?hr ?_; (case hd => rfl); (case hg => rfl); (case hr => first | (go_simp; done) | (go_simp; rfl)); intro gb161 hg w16 hbox hb; have n0_ := Aside0.mk (blk_below (g := gb158) (o := .cells #[.int .i64 a0_0, .int .i64 a0_1, .int .i64 a0_2, .slice (some ad160) l0_3.length c0_3] 41 (0, 0)) (by (with_reducible repeat (first | refine blk_drewN ?_ _ | refine blk_drew ?_ | refine blk_alloc ?_ _)); exact BK158.out) hb); have n1_ := Aside0.mk (below_step (by repeat (first | (with_reducible first | exact HB.out | apply below_alloc | apply pw_below_drewN | apply below_drew1 | refine below_set ?_ GE158.out) | exact HB.out)) hb); have n2_ := Aside0.mk (hbox); have n3_ := Aside0.mk ((by rw [hg]; exact (below_size (by repeat (first | (with_reducible first | exact HB.out | apply below_alloc | apply pw_below_drewN | apply below_drew1 | refine below_set ?_ GE158.out) | exact HB.out))) : w.heap.size ≤ gb161)); have n4_ := Aside0.mk ((by rw [hg]; exact (below_size (by repeat (first | (with_reducible first | exact HB.out | apply below_alloc | apply pw_below_drewN | apply below_drew1 | refine below_set ?_ GE158.out) | exact HB.out))) : w.heap.size ≤ gb161)); have n5_ := Aside0.mk ((by rw [hg]; exact Nat.ne_of_lt (blk_lt (g := gb158) (o := .cells #[.int .i64 a0_0, .int .i64 a0_1, .int .i64 a0_2, .slice (some ad160) l0_3.length c0_3] 41 (0, 0)) (by (with_reducible repeat (first | refine blk_drewN ?_ _ | refine blk_drew ?_ | refine blk_alloc ?_ _)); exact BK158.out)) : gb158 ≠ gb161)); have n6_ := Aside0.mk ((by rw [hg]; exact Nat.ne_of_gt (blk_lt (g := gb158) (o := .cells #[.int .i64 a0_0, .int .i64 a0_1, .int .i64 a0_2, .slice (some ad160) l0_3.length c0_3] 41 (0, 0)) (by (with_reducible repeat (first | refine blk_drewN ?_ _ | refine blk_drew ?_ | refine blk_alloc ?_ _)); exact BK158.out)) : gb161 ≠ gb158)); clear BK158; clear HB; have BK158 := n0_; have HB := n1_; have BK161 := n2_; have GW161 := n3_; have GE161 := n4_; have NB158_161 := n5_; have NB161_158 := n6_; clear n0_ n1_ n2_ n3_ n4_ n5_ n6_; clear hb hbox hg; have hnb17 := NB161_158.out; have hnc17 := NB158_161.out; have hcz18_0 : w16.cell? ⟨gb161, 0, none⟩ = some (.int .i64 0) := (blk_cell BK161.out 0).trans rfl; have hcz18_1 : w16.cell? ⟨gb161, 1, none⟩ = some (.int .i64 0) := (blk_cell BK161.out 1).trans rfl; have hcz18_2 : w16.cell? ⟨gb161, 2, none⟩ = some (.int .i64 0) := (blk_cell BK161.out 2).trans rfl; have hfz18_0 := blk_frozen BK161.out 0; have hfz18_1 := blk_frozen BK161.out 1; have hfz18_2 := blk_frozen BK161.out 2))
        go_roundg k1
        case measure => have := HK1.out; omega
        case rel => exact ⟨(wrap64 (x13_1 + 1)), (by first | rfl | (simp; done) | (simp [*]; done)), H', ⟨by have := HK1.out; omega⟩, ⟨by (with_reducible repeat (first | refine blk_drewN ?_ _ | refine blk_drew ?_ | refine blk_alloc ?_ _)); refine blk_far ?_ NB158_161.out _; (with_reducible repeat (first | refine blk_drewN ?_ _ | refine blk_drew ?_ | refine blk_alloc ?_ _)); refine blk_far ?_ NB158_161.out _; (with_reducible repeat (first | refine blk_drewN ?_ _ | refine blk_drew ?_ | refine blk_alloc ?_ _)); refine blk_far ?_ NB158_161.out _; (with_reducible repeat (first | refine blk_drewN ?_ _ | refine blk_drew ?_ | refine blk_alloc ?_ _)); exact BK158.out⟩, ⟨by repeat (first | (with_reducible first | exact HB.out | apply below_alloc | apply pw_below_drewN | apply below_drew1 | refine below_set ?_ GE158.out | refine below_set ?_ GE161.out) | exact HB.out)⟩⟩
      ·rw [if_neg c11] at H
       exact absurd H (by simp)
     ·rw [if_neg c10] at H
      exact absurd H (by simp)
    ·rw [if_neg c9] at H
     have c9b0 : decide (x13_1 < (l0_3.length : Int)) = false := decide_eq_false c9
     clear c9
     obtain rfl := Option.some.inj H
     go_wp2
     go_ret
     exact ⟨by first | rfl | (simp [errW_none, errW_some] <;> rfl) | (simp [*, errW_none, errW_some] <;> rfl), by repeat (first | (with_reducible first | exact HB.out | apply below_alloc | apply pw_below_drewN | apply below_drew1 | refine below_set ?_ GE158.out) | exact HB.out)⟩
 ·replace c4 := Bool.eq_false_iff.mpr c4
  subst c4
  have H1 : (some false) = some r := by rw [if_neg (show ¬ (false = true) by decide)] at H; exact H
  clear H
  have H := H1
  clear H1
  obtain rfl := Option.some.inj H
  go_enter Try.func48, Try.ntmps48
  go_wp2_with (first | ((with_reducible refine gate_dst (N := 2) rfl ?_); refine box_event ?hg (N := 2) ?hd (cs := #[.int .i64 a0_0, .int .i64 a0_1, .int .i64 a0_2, .slice A0_3 l0_3.length c0_3]) (t := 41) ?hr ?_; (case hd => rfl); (case hg => rfl); (case hr => first | (go_simp; done) | (go_simp; rfl)); intro gb158 hg w19 hbox hb; have n0_ := Aside0.mk (below_step (by repeat (first | (with_reducible first | exact HB.out | apply below_alloc | apply pw_below_drewN | apply below_drew1) | exact HB.out)) hb); have n1_ := Aside0.mk (hbox); have n2_ := Aside0.mk ((by rw [hg]; exact (below_size (by repeat (first | (with_reducible first | exact HB.out | apply below_alloc | apply pw_below_drewN | apply below_drew1) | exact HB.out))) : w.heap.size ≤ gb158)); have n3_ := Aside0.mk ((by rw [hg]; exact (below_size (by repeat (first | (with_reducible first | exact HB.out | apply below_alloc | apply pw_below_drewN | apply below_drew1) | exact HB.out))) : w.heap.size ≤ gb158)); clear HB; have HB := n0_; have BK158 := n1_; have GW158 := n2_; have GE158 := n3_; clear n0_ n1_ n2_ n3_; clear hb hbox hg; have hcz20_0 : w19.cell? ⟨gb158, 0, none⟩ = some (.int .i64 a0_0) := (blk_cell BK158.out 0).trans rfl; have hcz20_1 : w19.cell? ⟨gb158, 1, none⟩ = some (.int .i64 a0_1) := (blk_cell BK158.out 1).trans rfl; have hcz20_2 : w19.cell? ⟨gb158, 2, none⟩ = some (.int .i64 a0_2) := (blk_cell BK158.out 2).trans rfl; have hcz20_3 : w19.cell? ⟨gb158, 3, none⟩ = some (.slice A0_3 l0_3.length c0_3) := (blk_cell BK158.out 3).trans rfl; have hfz20_0 := blk_frozen BK158.out 0; have hfz20_1 := blk_frozen BK158.out 1; have hfz20_2 := blk_frozen BK158.out 2; have hfz20_3 := blk_frozen BK158.out 3) | ((with_reducible refine gate_callee (f := 43) rfl ?_); refine goesL_ (some 8) rfl rfl Try.func43 (by kernel_rfl) rfl #[.agg #[.int .i64 a0_0, .int .i64 a0_1, .int .i64 a0_2, .slice A0_3 l0_3.length c0_3]] rfl (by (try simp only [List.map_toArray, List.map_cons, List.map_nil]); first | done | rfl | (simp only [List.length_drop, List.length_take]; rfl)) ?_; (with_reducible refine (task_Right.calls k a0_0 a0_1 a0_2 _ _ l0_3 false _ ?side1 ?side2 A3.out).mono ?_); (case side1 => repeat (first | exact (Kd.C_below HR0_3.out HB.out) | (with_reducible refine Kd.C_alloc ?_ _) | (with_reducible refine Kd.C_drewN ?_ _) | (with_reducible refine Kd.C_drew ?_))); (case side2 => exact HC0_3.out); rintro e w21 ⟨rfl, hb⟩; refine ⟨_, rfl, ?_⟩; have n0_ := Aside0.mk (blk_below (g := gb158) (o := .cells #[.int .i64 a0_0, .int .i64 a0_1, .int .i64 a0_2, .slice A0_3 l0_3.length c0_3] 41 (0, 0)) (by (with_reducible repeat (first | refine blk_drewN ?_ _ | refine blk_drew ?_ | refine blk_alloc ?_ _)); exact BK158.out) hb); have n1_ := Aside0.mk (below_step (by repeat (first | (with_reducible first | exact HB.out | apply below_alloc | apply pw_below_drewN | apply below_drew1 | refine below_set ?_ GE158.out) | exact HB.out)) hb); clear BK158; clear HB; have BK158 := n0_; have HB := n1_; clear n0_ n1_; (try clear hb); (try clear hb2); (try clear hk); (try clear hi)))
  go_ret
  exact ⟨by first | rfl | (simp [errW_none, errW_some] <;> rfl) | (simp [*, errW_none, errW_some] <;> rfl), by repeat (first | (with_reducible first | exact HB.out | apply below_alloc | apply pw_below_drewN | apply below_drew1 | refine below_set ?_ GE158.out) | exact HB.out)⟩
theorem task_Uses.l0_ev (res : Int) : ∀ (rest pre : List (S63)), ((pre ++ rest).length : Int) ≤ 1000000 →
    Ev (fun k => task_Uses.l0 k res (pre ++ rest) ((pre ++ rest).length : Int) (pre.length : Int)) (rest.any fun s => s.f0 == res) := by
  intro rest
  induction rest with
  | nil =>
    intro pre _
    refine Ev.step (f := fun _ => some false) (fun k => ?_) (Ev.now _)
    simp only [task_Uses.l0]
    rw [if_neg (by simp)]
  | cons b rest ih =>
    intro pre hlen
    have hl : (pre.length : Int) ≤ 1000000 := by simp at hlen; omega
    have e : rd_T63 (pre ++ b :: rest) (pre.length : Int) = b := getD_mid _ _ _ _
    by_cases hb : b.f0 = res
    · refine Ev.step (f := fun _ => some true) (fun k => ?_) (by simpa [hb] using Ev.now true)
      simp only [task_Uses.l0]
      rw [if_pos (len_mid _ _ _), if_pos (by omega), if_pos (len_mid _ _ _), e, if_pos hb]
    · have ih2 := ih (pre ++ [b]) (by simpa using hlen)
      have hb' : (b.f0 == res) = false := beq_eq_false_iff_ne.mpr hb
      refine Ev.step (fun k => ?_) (by simpa [hb'] using ih2)
      simp only [task_Uses.l0]
      rw [if_pos (len_mid _ _ _), if_pos (by omega), if_pos (len_mid _ _ _), e, if_neg hb, wrap_succ _ (by omega)]
      simp
theorem task_Uses.ev (c d t : Int) (l : List (S63)) (res : Int) (h : okTask c d t l = true) : Ev (fun k => task_Uses.f k c d t l res) (l.any fun s => s.f0 == res) := by
  have h0 := task_Uses.l0_ev res l [] (by have := okTask_nums h; simp; omega)
  refine Ev.congr (f := fun k => (task_Right.f k c d t l).bind fun b => if b = true then task_Uses.l0 k res l (l.length : Int) 0 else some false) (fun k => rfl) ?_
  refine Ev.bind (task_Right.ev c d t l) ?_
  rw [h]; simpa using h0
/-! ### block_shared: function 40 -/
def block_shared.l0 : Nat → Int → Int → List (S41) → Int → Int → Option (Bool)
 | 0, _, _, _, _, _ => none
 | k + 1, x1, x2, x9, x10, x11 => if x11 < x10 then (if 0 ≤ x11 then (if x11 < (x9.length : Int) then (if ((rd_T41 x9 x11).f1) ≤ x1 then ((task_Uses.f k ((rd_T41 x9 x11).f0) ((rd_T41 x9 x11).f1) ((rd_T41 x9 x11).f2) ((rd_T41 x9 x11).f3) x2).bind fun t164 => (if t164 = true then (some true) else (block_shared.l0 k x1 x2 x9 x10 (wrap64 (x11 + 1))))) else (block_shared.l0 k x1 x2 x9 x10 (wrap64 (x11 + 1)))) else (none)) else (none)) else (some false)
def block_shared.f (k : Nat) (l0 : List (S41)) (a1 : Int) (a2 : Int) : Option (Bool) := block_shared.l0 k a1 a2 l0 (l0.length : Int) 0
set_option maxHeartbeats 8000000 in
set_option maxRecDepth 100000 in
theorem block_shared.calls (k : Nat) (A0 : Option Addr) (c0 : Nat) (l0 : List (S41)) (a1 : Int) (a2 : Int) (r : Bool) (w : World) (hr0 : Kd.C k41 w A0 l0.length l0) (hc0 : l0.length ≤ c0) (h : block_shared.f k l0 a1 a2 = some r) :
  Calls Try.prog 40 #[.slice A0 l0.length c0, .int .i64 a1, .int .i64 a2] w fun e w' => e = .returned (.bool r) ∧ Below w.heap.size w w' := by
 have hu41 := Try.underlying41
 have HR0 := Aside0.mk hr0
 have HC0 := Aside0.mk hc0
 clear hr0 hc0
 have HB := Aside0.mk (Below.refl w.heap.size w)
 have H : (block_shared.l0 k a1 a2 l0 (l0.length : Int) 0) = some r := h
 clear h
 have H' := Aside0.mk H
 clear H
 go_enter Try.func40, Try.ntmps40
 go_wp2
 go_loopg [11] k (fun kq v11 w' => ∃ (x11_1 : Int), v11 = .int .i64 x11_1 ∧ Aside0 (block_shared.l0 kq a1 a2 l0 (l0.length : Int) x11_1 = some r) ∧ Aside0 (kq ≤ k) ∧ Aside0 (Below w.heap.size w w'))
 case atStart => exact ⟨(0), (by first | rfl | (simp; done) | (simp [*]; done)), H', ⟨Nat.le_refl _⟩, ⟨by repeat (first | (with_reducible first | exact HB.out | apply below_alloc | apply pw_below_drewN | apply below_drew1) | exact HB.out)⟩⟩
 case round =>
  clear H'
  (try clear p2)
  obtain ⟨x11_1, rfl, HA, HK1, HB⟩ := hrel
  cases gk with
  | zero => exact absurd HA.out (by simp [block_shared.l0])
  | succ k1 =>
   have H := HA.out
   clear HA
   simp only [block_shared.l0] at H
   by_cases c4 : x11_1 < (l0.length : Int)
   ·rw [if_pos c4] at H
    have c4b0 : decide (x11_1 < (l0.length : Int)) = true := decide_eq_true c4
    clear c4
    by_cases c5 : 0 ≤ x11_1
    ·rw [if_pos c5] at H
     have c5b0 : decide (0 ≤ x11_1) = true := decide_eq_true c5
     clear c5
     by_cases c6 : x11_1 < (l0.length : Int)
     ·rw [if_pos c6] at H
      have c6b0 : decide (x11_1 < (l0.length : Int)) = true := decide_eq_true c6
      clear c6
      by_cases c7 : ((rd_T41 l0 x11_1).f1) ≤ a1
      ·rw [if_pos c7] at H
       have c7b0 : decide (((rd_T41 l0 x11_1).f1) ≤ a1) = true := decide_eq_true c7
       clear c7
       replace H := Option.bind_eq_some_iff.mp H
       obtain ⟨t164, A80, H⟩ := H
       replace H : (if t164 = true then (some true) else (block_shared.l0 k1 a1 a2 l0 (l0.length : Int) (wrap64 (x11_1 + 1)))) = some r := H
       have A8 := Aside0.mk A80
       clear A80
       by_cases c9 : t164 = true
       ·subst c9
        have H1 : (some true) = some r := by rw [if_pos rfl] at H; exact H
        clear H
        have H := H1
        clear H1
        obtain rfl := Option.some.inj H
        have p162 : 0 ≤ (x11_1 : Int) := of_decide_eq_true (by first | (with_reducible assumption) | assumption)
        have q162 : x11_1 < (l0.length : Int) := of_decide_eq_true (by first | (with_reducible assumption) | assumption)
        obtain ⟨ad162, A162_3, c162_3, e162, hx162_0, hx162_1, hx162_2, hx162_3, hl162_3, hi162_3⟩ := at_T41 HR0.out x11_1 p162 q162
        cases e162
        replace hx162_0 := (HB.out.cell (World.block_lt_of_cell? w _ hx162_0)).trans hx162_0
        replace hx162_1 := (HB.out.cell (World.block_lt_of_cell? w _ hx162_1)).trans hx162_1
        replace hx162_2 := (HB.out.cell (World.block_lt_of_cell? w _ hx162_2)).trans hx162_2
        replace hx162_3 := (HB.out.cell (World.block_lt_of_cell? w _ hx162_3)).trans hx162_3
        have HR162_3 := Aside0.mk hi162_3
        have HC162_3 := Aside0.mk hl162_3
        clear hi162_3 hl162_3
        replace p162 := eq_true p162
        replace q162 := eq_true q162
        go_wp2_with (first | ((with_reducible refine gate_dst (N := 8) rfl ?_); refine box_event ?hg (N := 8) ?hd (cs := #[.int .i64 0, .int .i64 0, .int .i64 0, .slice none 0 0]) (t := 41) ?hr ?_; (case hd => rfl); (case hg => rfl); (case hr => first | (go_simp; done) | (go_simp; rfl)); intro gb163 hg w10 hbox hb; have n0_ := Aside0.mk (below_step (by repeat (first | (with_reducible first | exact HB.out | apply below_alloc | apply pw_below_drewN | apply below_drew1) | exact HB.out)) hb); have n1_ := Aside0.mk (hbox); have n2_ := Aside0.mk ((by rw [hg]; exact (below_size (by repeat (first | (with_reducible first | exact HB.out | apply below_alloc | apply pw_below_drewN | apply below_drew1) | exact HB.out))) : w.heap.size ≤ gb163)); have n3_ := Aside0.mk ((by rw [hg]; exact (below_size (by repeat (first | (with_reducible first | exact HB.out | apply below_alloc | apply pw_below_drewN | apply below_drew1) | exact HB.out))) : w.heap.size ≤ gb163)); clear HB; have HB := n0_; have BK163 := n1_; have GW163 := n2_; have GE163 := n3_; clear n0_ n1_ n2_ n3_; clear hb hbox hg; have hcz11_0 : w10.cell? ⟨gb163, 0, none⟩ = some (.int .i64 0) := (blk_cell BK163.out 0).trans rfl; have hcz11_1 : w10.cell? ⟨gb163, 1, none⟩ = some (.int .i64 0) := (blk_cell BK163.out 1).trans rfl; have hcz11_2 : w10.cell? ⟨gb163, 2, none⟩ = some (.int .i64 0) := (blk_cell BK163.out 2).trans rfl; have hcz11_3 : w10.cell? ⟨gb163, 3, none⟩ = some (.slice none 0 0) := (blk_cell BK163.out 3).trans rfl; have hfz11_0 := blk_frozen BK163.out 0; have hfz11_1 := blk_frozen BK163.out 1; have hfz11_2 := blk_frozen BK163.out 2; have hfz11_3 := blk_frozen BK163.out 3) | (go_at_call 48; (with_reducible refine (task_Uses.calls k1 ((rd_T41 l0 x11_1).f0) ((rd_T41 l0 x11_1).f1) ((rd_T41 l0 x11_1).f2) _ _ ((rd_T41 l0 x11_1).f3) a2 true _ ?side1 ?side2 A8.out).mono ?_); (case side1 => exact Kd.C_below HR162_3.out (by repeat (first | (with_reducible first | exact HB.out | apply below_alloc | apply pw_below_drewN | apply below_drew1 | refine below_set ?_ GE163.out) | exact HB.out))); (case side2 => exact HC162_3.out); rintro e w12 ⟨rfl, hb⟩; have n0_ := Aside0.mk (blk_below (g := gb163) (o := .cells #[.int .i64 ((rd_T41 l0 x11_1).f0), .int .i64 ((rd_T41 l0 x11_1).f1), .int .i64 ((rd_T41 l0 x11_1).f2), .slice A162_3 ((rd_T41 l0 x11_1).f3).length c162_3] 41 (0, 0)) (by (with_reducible repeat (first | refine blk_drewN ?_ _ | refine blk_drew ?_ | refine blk_alloc ?_ _)); refine blk_put (cs := #[.int .i64 ((rd_T41 l0 x11_1).f0), .int .i64 ((rd_T41 l0 x11_1).f1), .int .i64 ((rd_T41 l0 x11_1).f2), .slice none 0 0]) ?_ 3 _ rfl; (with_reducible repeat (first | refine blk_drewN ?_ _ | refine blk_drew ?_ | refine blk_alloc ?_ _)); refine blk_put (cs := #[.int .i64 ((rd_T41 l0 x11_1).f0), .int .i64 ((rd_T41 l0 x11_1).f1), .int .i64 0, .slice none 0 0]) ?_ 2 _ rfl; (with_reducible repeat (first | refine blk_drewN ?_ _ | refine blk_drew ?_ | refine blk_alloc ?_ _)); refine blk_put (cs := #[.int .i64 ((rd_T41 l0 x11_1).f0), .int .i64 0, .int .i64 0, .slice none 0 0]) ?_ 1 _ rfl; (with_reducible repeat (first | refine blk_drewN ?_ _ | refine blk_drew ?_ | refine blk_alloc ?_ _)); refine blk_put (cs := #[.int .i64 0, .int .i64 0, .int .i64 0, .slice none 0 0]) ?_ 0 _ rfl; (with_reducible repeat (first | refine blk_drewN ?_ _ | refine blk_drew ?_ | refine blk_alloc ?_ _)); exact BK163.out) hb); have n1_ := Aside0.mk (below_step (by repeat (first | (with_reducible first | exact HB.out | apply below_alloc | apply pw_below_drewN | apply below_drew1 | refine below_set ?_ GE163.out) | exact HB.out)) hb); clear BK163; clear HB; have BK163 := n0_; have HB := n1_; clear n0_ n1_; (try clear hb); (try clear hb2); (try clear hk); (try clear hi)))
        go_ret
        exact ⟨by first | rfl | (simp [errW_none, errW_some] <;> rfl) | (simp [*, errW_none, errW_some] <;> rfl), by repeat (first | (with_reducible first | exact HB.out | apply below_alloc | apply pw_below_drewN | apply below_drew1 | refine below_set ?_ GE163.out) | exact HB.out)⟩
       ·replace c9 := Bool.eq_false_iff.mpr c9
        subst c9
        have H1 : (block_shared.l0 k1 a1 a2 l0 (l0.length : Int) (wrap64 (x11_1 + 1))) = some r := by rw [if_neg (show ¬ (false = true) by decide)] at H; exact H
        clear H
        have H := H1
        clear H1
        have H' := Aside0.mk H
        clear H
        have p162 : 0 ≤ (x11_1 : Int) := of_decide_eq_true (by first | (with_reducible assumption) | assumption)
        have q162 : x11_1 < (l0.length : Int) := of_decide_eq_true (by first | (with_reducible assumption) | assumption)
        obtain ⟨ad162, A162_3, c162_3, e162, hx162_0, hx162_1, hx162_2, hx162_3, hl162_3, hi162_3⟩ := at_T41 HR0.out x11_1 p162 q162
        cases e162
        replace hx162_0 := (HB.out.cell (World.block_lt_of_cell? w _ hx162_0)).trans hx162_0
        replace hx162_1 := (HB.out.cell (World.block_lt_of_cell? w _ hx162_1)).trans hx162_1
        replace hx162_2 := (HB.out.cell (World.block_lt_of_cell? w _ hx162_2)).trans hx162_2
        replace hx162_3 := (HB.out.cell (World.block_lt_of_cell? w _ hx162_3)).trans hx162_3
        have HR162_3 := Aside0.mk hi162_3
        have HC162_3 := Aside0.mk hl162_3
        clear hi162_3 hl162_3
        replace p162 := eq_true p162
        replace q162 := eq_true q162
        go_wp2_with (first | ((with_reducible refine gate_dst (N := 8) rfl ?_); refine box_event ?hg (N := 8) ?hd (cs := #[.int .i64 0, .int .i64 0, .int .i64 0, .slice none 0 0]) (t := 41) ?hr ?_; (case hd => rfl); (case hg => rfl); (case hr => first | (go_simp; done) | (go_simp; rfl)); intro gb163 hg w13 hbox hb; have n0_ := Aside0.mk (below_step (by repeat (first | (with_reducible first | exact HB.out | apply below_alloc | apply pw_below_drewN | apply below_drew1) | exact HB.out)) hb); have n1_ := Aside0.mk (hbox); have n2_ := Aside0.mk ((by rw [hg]; exact (below_size (by repeat (first | (with_reducible first | exact HB.out | apply below_alloc | apply pw_below_drewN | apply below_drew1) | exact HB.out))) : w.heap.size ≤ gb163)); have n3_ := Aside0.mk ((by rw [hg]; exact (below_size (by repeat (first | (with_reducible first | exact HB.out | apply below_alloc | apply pw_below_drewN | apply below_drew1) | exact HB.out))) : w.heap.size ≤ gb163)); clear HB; have HB := n0_; have BK163 := n1_; have GW163 := n2_; have GE163 := n3_; clear n0_ n1_ n2_ n3_; clear hb hbox hg; have hcz14_0 : w13.cell? ⟨gb163, 0, none⟩ = some (.int .i64 0) := (blk_cell BK163.out 0).trans rfl; have hcz14_1 : w13.cell? ⟨gb163, 1, none⟩ = some (.int .i64 0) := (blk_cell BK163.out 1).trans rfl; have hcz14_2 : w13.cell? ⟨gb163, 2, none⟩ = some (.int .i64 0) := (blk_cell BK163.out 2).trans rfl; have hcz14_3 : w13.cell? ⟨gb163, 3, none⟩ = some (.slice none 0 0) := (blk_cell BK163.out 3).trans rfl; have hfz14_0 := blk_frozen BK163.out 0; have hfz14_1 := blk_frozen BK163.out 1; have hfz14_2 := blk_frozen BK163.out 2; have hfz14_3 := blk_frozen BK163.out 3) | (go_at_call 48; (with_reducible refine (task_Uses.calls k1 ((rd_T41 l0 x11_1).f0) ((rd_T41 l0 x11_1).f1) ((rd_T41 l0 x11_1).f2) _ _ ((rd_T41 l0 x11_1).f3) a2 false _ ?side1 ?side2 A8.out).mono ?_); (case side1 => exact Kd.C_below HR162_3.out (by repeat (first | (with_reducible first | exact HB.out | apply below_alloc | apply pw_below_drewN | apply below_drew1 | refine below_set ?_ GE163.out) | exact HB.out))); (case side2 => exact HC162_3.out); rintro e w15 ⟨rfl, hb⟩; have n0_ := Aside0.mk (blk_below (g := gb163) (o := .cells #[.int .i64 ((rd_T41 l0 x11_1).f0), .int .i64 ((rd_T41 l0 x11_1).f1), .int .i64 ((rd_T41 l0 x11_1).f2), .slice A162_3 ((rd_T41 l0 x11_1).f3).length c162_3] 41 (0, 0)) (by (with_reducible repeat (first | refine blk_drewN ?_ _ | refine blk_drew ?_ | refine blk_alloc ?_ _)); refine blk_put (cs := #[.int .i64 ((rd_T41 l0 x11_1).f0), .int .i64 ((rd_T41 l0 x11_1).f1), .int .i64 ((rd_T41 l0 x11_1).f2), .slice none 0 0]) ?_ 3 _ rfl; (with_reducible repeat (first | refine blk_drewN ?_ _ | refine blk_drew ?_ | refine blk_alloc ?_ _)); refine blk_put (cs := #[.int .i64 ((rd_T41 l0 x11_1).f0), .int .i64 ((rd_T41 l0 x11_1).f1), .int .i64 0, .slice none 0 0]) ?_ 2 _ rfl; (with_reducible repeat (first | refine blk_drewN ?_ _ | refine blk_drew ?_ | refine blk_alloc ?_ _)); refine blk_put (cs := #[.int .i64 ((rd_T41 l0 x11_1).f0), .int .i64 0, .int .i64 0, .slice none 0 0]) ?_ 1 _ rfl; (with_reducible repeat (first | refine blk_drewN ?_ _ | refine blk_drew ?_ | refine blk_alloc ?_ _)); refine blk_put (cs := #[.int .i64 0, .int .i64 0, .int .i64 0, .slice none 0 0]) ?_ 0 _ rfl; (with_reducible repeat (first | refine blk_drewN ?_ _ | refine blk_drew ?_ | refine blk_alloc ?_ _)); exact BK163.out) hb); have n1_ := Aside0.mk (below_step (by repeat (first | (with_reducible first | exact HB.out | apply below_alloc | apply pw_below_drewN | apply below_drew1 | refine below_set ?_ GE163.out) | exact HB.out)) hb); clear BK163; clear HB; have BK163 := n0_; have HB := n1_; clear n0_ n1_; (try clear hb); (try clear hb2); (try clear hk); (try clear hi)))
        go_roundg k1
        case measure => have := HK1.out; omega
        case rel => exact ⟨(wrap64 (x11_1 + 1)), (by first | rfl | (simp; done) | (simp [*]; done)), H', ⟨by have := HK1.out; omega⟩, ⟨by repeat (first | (with_reducible first | exact HB.out | apply below_alloc | apply pw_below_drewN | apply below_drew1 | refine below_set ?_ GE163.out) | exact HB.out)⟩⟩
      ·rw [if_neg c7] at H
       have c7b0 : decide (((rd_T41 l0 x11_1).f1) ≤ a1) = false := decide_eq_false c7
       clear c7
       have H' := Aside0.mk H
       clear H
       have p162 : 0 ≤ (x11_1 : Int) := of_decide_eq_true (by first | (with_reducible assumption) | assumption)
       have q162 : x11_1 < (l0.length : Int) := of_decide_eq_true (by first | (with_reducible assumption) | assumption)
       obtain ⟨ad162, A162_3, c162_3, e162, hx162_0, hx162_1, hx162_2, hx162_3, hl162_3, hi162_3⟩ := at_T41 HR0.out x11_1 p162 q162
       cases e162
       replace hx162_0 := (HB.out.cell (World.block_lt_of_cell? w _ hx162_0)).trans hx162_0
       replace hx162_1 := (HB.out.cell (World.block_lt_of_cell? w _ hx162_1)).trans hx162_1
       replace hx162_2 := (HB.out.cell (World.block_lt_of_cell? w _ hx162_2)).trans hx162_2
       replace hx162_3 := (HB.out.cell (World.block_lt_of_cell? w _ hx162_3)).trans hx162_3
       have HR162_3 := Aside0.mk hi162_3
       have HC162_3 := Aside0.mk hl162_3
       clear hi162_3 hl162_3
       replace p162 := eq_true p162
       replace q162 := eq_true q162
       go_wp2_with (first | ((with_reducible refine gate_dst (N := 8) rfl ?_); refine box_event ?hg (N := 8) ?hd (cs := #[.int .i64 0, .int .i64 0, .int .i64 0, .slice none 0 0]) (t := 41) ?hr ?_; (case hd => rfl); (case hg => rfl); (case hr => first | (go_simp; done) | (go_simp; rfl)); intro gb163 hg w16 hbox hb; have n0_ := Aside0.mk (below_step (by repeat (first | (with_reducible first | exact HB.out | apply below_alloc | apply pw_below_drewN | apply below_drew1) | exact HB.out)) hb); have n1_ := Aside0.mk (hbox); have n2_ := Aside0.mk ((by rw [hg]; exact (below_size (by repeat (first | (with_reducible first | exact HB.out | apply below_alloc | apply pw_below_drewN | apply below_drew1) | exact HB.out))) : w.heap.size ≤ gb163)); have n3_ := Aside0.mk ((by rw [hg]; exact (below_size (by repeat (first | (with_reducible first | exact HB.out | apply below_alloc | apply pw_below_drewN | apply below_drew1) | exact HB.out))) : w.heap.size ≤ gb163)); clear HB; have HB := n0_; have BK163 := n1_; have GW163 := n2_; have GE163 := n3_; clear n0_ n1_ n2_ n3_; clear hb hbox hg; have hcz17_0 : w16.cell? ⟨gb163, 0, none⟩ = some (.int .i64 0) := (blk_cell BK163.out 0).trans rfl; have hcz17_1 : w16.cell? ⟨gb163, 1, none⟩ = some (.int .i64 0) := (blk_cell BK163.out 1).trans rfl; have hcz17_2 : w16.cell? ⟨gb163, 2, none⟩ = some (.int .i64 0) := (blk_cell BK163.out 2).trans rfl; have hcz17_3 : w16.cell? ⟨gb163, 3, none⟩ = some (.slice none 0 0) := (blk_cell BK163.out 3).trans rfl; have hfz17_0 := blk_frozen BK163.out 0; have hfz17_1 := blk_frozen BK163.out 1; have hfz17_2 := blk_frozen BK163.out 2; have hfz17_3 := blk_frozen BK163.out 3))
       go_roundg k1
       case measure => have := HK1.out; omega
       case rel => exact ⟨(wrap64 (x11_1 + 1)), (by first | rfl | (simp; done) | (simp [*]; done)), H', ⟨by have := HK1.out; omega⟩, ⟨by repeat (first | (with_reducible first | exact HB.out | apply below_alloc | apply pw_below_drewN | apply below_drew1 | refine below_set ?_ GE163.out) | exact HB.out)⟩⟩
     ·rw [if_neg c6] at H
      exact absurd H (by simp)
    ·rw [if_neg c5] at H
     exact absurd H (by simp)
   ·rw [if_neg c4] at H
    have c4b0 : decide (x11_1 < (l0.length : Int)) = false := decide_eq_false c4
    clear c4
    obtain rfl := Option.some.inj H
    go_wp2
    go_ret
    exact ⟨by first | rfl | (simp [errW_none, errW_some] <;> rfl) | (simp [*, errW_none, errW_some] <;> rfl), by repeat (first | (with_reducible first | exact HB.out | apply below_alloc | apply pw_below_drewN | apply below_drew1) | exact HB.out)⟩
def usesR (x : S41) (res : Int) : Bool := x.f3.any fun s => s.f0 == res
def sharedR (l : List (S41)) (t res : Int) : Bool := l.any fun x => decide (x.f1 ≤ t) && usesR x res
theorem block_shared.l0_ev (t res : Int) : ∀ (rest pre : List (S41)), (∀ x ∈ rest, okT x = true) → ((pre ++ rest).length : Int) ≤ 1000000 →
    Ev (fun k => block_shared.l0 k t res (pre ++ rest) ((pre ++ rest).length : Int) (pre.length : Int)) (sharedR rest t res) := by
  intro rest
  induction rest with
  | nil =>
    intro pre _ _
    refine Ev.step (f := fun _ => some false) (fun k => ?_) (Ev.now _)
    simp only [block_shared.l0]
    rw [if_neg (by simp)]
  | cons b rest ih =>
    intro pre hok hlen
    have hl : (pre.length : Int) ≤ 1000000 := by simp at hlen; omega
    have e : rd_T41 (pre ++ b :: rest) (pre.length : Int) = b := getD_mid _ _ _ _
    have ih2 := ih (pre ++ [b]) (fun x hx => hok x (List.mem_cons_of_mem _ hx)) (by simpa using hlen)
    have hu := task_Uses.ev b.f0 b.f1 b.f2 b.f3 res (hok b List.mem_cons_self)
    by_cases hd : b.f1 ≤ t
    · refine Ev.step (f := fun k => (task_Uses.f k b.f0 b.f1 b.f2 b.f3 res).bind fun u => if u = true then some true else block_shared.l0 k t res (pre ++ b :: rest) ((pre ++ b :: rest).length : Int) (((pre ++ [b]).length : Nat) : Int)) (fun k => ?_) (Ev.bind hu ?_)
      · simp only [block_shared.l0]
        rw [if_pos (len_mid _ _ _), if_pos (by omega), if_pos (len_mid _ _ _), e, if_pos hd, wrap_succ _ (by omega)]
        simp
      · by_cases hb : usesR b res = true
        · have hb2 : (b.f3.any fun s => s.f0 == res) = true := hb
          rw [hb2]
          simpa [sharedR, hd, hb] using Ev.now true
        · have hb' : usesR b res = false := by simpa using hb
          have hb2 : (b.f3.any fun s => s.f0 == res) = false := hb'
          rw [hb2]
          simpa [sharedR, hd, hb'] using ih2
    · refine Ev.step (fun k => ?_) (by simpa [sharedR, hd] using ih2)
      simp only [block_shared.l0]
      rw [if_pos (len_mid _ _ _), if_pos (by omega), if_pos (len_mid _ _ _), e, if_neg hd, wrap_succ _ (by omega)]
      simp
theorem block_shared.ev (l : List (S41)) (t res : Int) (h : ∀ x ∈ l, okT x = true) (hl : (l.length : Int) ≤ 1000000) : Ev (fun k => block_shared.f k l t res) (sharedR l t res) := by
  have h0 := block_shared.l0_ev t res l [] h (by simpa using hl)
  simpa [block_shared.f] using h0
/-! ### block_Of_1: function 39 (by hand) -/
def lookS (l : List (S41)) (t m : Int) (s : S63) : Int := if m < s.f2 ∧ sharedR l t s.f0 = true then s.f2 else m
set_option maxHeartbeats 1600000 in
theorem block_Of_1.calls (A0 : Option Addr) (c0 : Nat) (l : List (S41)) (t m : Int) (s : S63) (gm gl gt : Nat) (w0 w : World)
    (hr0 : Kd.C k41 w0 A0 l.length l) (hc0 : l.length ≤ c0) (hok : ∀ x ∈ l, okT x = true) (hl8 : l.length ≤ 8)
    (HB0 : Below w0.heap.size w0 w) (hgm : w0.heap.size ≤ gm) (hne1 : gm ≠ gl) (hne2 : gm ≠ gt)
    (hm : w.heap[gm]? = some (.cells #[.int .i64 m] 3 (0, 0))) (hgl : w.heap[gl]? = some (.cells #[.slice A0 l.length c0] 22 (0, 0))) (hgt : w.heap[gt]? = some (.cells #[.int .i64 t] 3 (0, 0))) :
    Calls Try.prog 39 #[.agg #[.int .i64 s.f0, .int .i64 s.f1, .int .i64 s.f2], .pointer (some ⟨gm, 0, none⟩), .pointer (some ⟨gl, 0, none⟩), .pointer (some ⟨gt, 0, none⟩)] w fun e w' =>
      e = .returned (.tuple #[]) ∧ w'.heap[gm]? = some (.cells #[.int .i64 (lookS l t m s)] 3 (0, 0)) ∧ Below w0.heap.size w0 w' ∧ Kept w w' (fun i => i = gm) := by
  have hu := Try.underlying63
  have HB := Aside0.mk HB0
  have HM := Aside0.mk hm
  have HL := Aside0.mk hgl
  have HT := Aside0.mk hgt
  have HR := Aside0.mk hr0
  have HC := Aside0.mk hc0
  obtain ⟨K, hK⟩ := (block_shared.ev l t s.f0 hok (by omega)).rounds
  have HK := Aside0.mk hK
  have lm := blk_lt hm
  have ll := blk_lt hgl
  have lt := blk_lt hgt
  have cm := blk_cell0 hm
  have cl := blk_cell0 hgl
  have ct := blk_cell0 hgt
  clear HB0 hm hgl hgt hr0 hc0 hK hok
  by_cases h1 : m < s.f2
  · have d1 : decide (m < s.f2) = true := decide_eq_true h1
    by_cases h2 : sharedR l t s.f0 = true
    · have e : lookS l t m s = s.f2 := by unfold lookS; rw [if_pos ⟨h1, h2⟩]
      rw [e]
      rw [h2] at HK
      clear h1 h2 e
      go_enter Try.func39, Try.ntmps39
      go_wp2_with fail
      refine (block_shared.calls K A0 c0 l t s.f0 true _ (Kd.C_below HR.out (below_alloc HB.out _)) HC.out HK.out).mono ?_
      rintro e w1 ⟨rfl, hb1⟩
      have HXb := Aside0.mk (blk_below (blk_new w (.cells #[Value.int IntKind.i64 s.f0, Value.int IntKind.i64 s.f1, Value.int IntKind.i64 s.f2] 63)) hb1)
      have HM1 := Aside0.mk (blk_below (blk_alloc HM.out (.cells #[Value.int IntKind.i64 s.f0, Value.int IntKind.i64 s.f1, Value.int IntKind.i64 s.f2] 63)) hb1)
      have HB1 := Aside0.mk (below_weaken (below_alloc HB.out _) (below_alloc HB.out (.cells #[Value.int IntKind.i64 s.f0, Value.int IntKind.i64 s.f1, Value.int IntKind.i64 s.f2] 63)).size hb1)
      have HK1 := Aside0.mk ((Kept.of_below (below_alloc (Below.refl w.heap.size w) (.cells #[Value.int IntKind.i64 s.f0, Value.int IntKind.i64 s.f1, Value.int IntKind.i64 s.f2] 63)) (fun i => i = gm)).below hb1)
      have cx := (blk_cell HXb.out 2).trans rfl
      have fm := blk_frozen HM1.out 0
      have cm1 := blk_cell0 HM1.out
      clear hb1 cm cl ct
      go_wp2_with fail
      go_end0
      exact ⟨rfl, blk_put HM1.out 0 _ rfl, below_set HB1.out hgm, HK1.out.setCell (.inl rfl) _⟩
    · have h2' : sharedR l t s.f0 = false := by simpa using h2
      have e : lookS l t m s = m := by unfold lookS; rw [if_neg (fun h => h2 h.2)]
      rw [e]
      rw [h2'] at HK
      clear h1 h2 e
      go_enter Try.func39, Try.ntmps39
      go_wp2_with fail
      refine (block_shared.calls K A0 c0 l t s.f0 false _ (Kd.C_below HR.out (below_alloc HB.out _)) HC.out HK.out).mono ?_
      rintro e w1 ⟨rfl, hb1⟩
      have HM1 := Aside0.mk (blk_below (blk_alloc HM.out (.cells #[Value.int IntKind.i64 s.f0, Value.int IntKind.i64 s.f1, Value.int IntKind.i64 s.f2] 63)) hb1)
      have HB1 := Aside0.mk (below_weaken (below_alloc HB.out _) (below_alloc HB.out (.cells #[Value.int IntKind.i64 s.f0, Value.int IntKind.i64 s.f1, Value.int IntKind.i64 s.f2] 63)).size hb1)
      have HK1 := Aside0.mk ((Kept.of_below (below_alloc (Below.refl w.heap.size w) (.cells #[Value.int IntKind.i64 s.f0, Value.int IntKind.i64 s.f1, Value.int IntKind.i64 s.f2] 63)) (fun i => i = gm)).below hb1)
      clear hb1 cm cl ct
      go_wp2_with fail
      go_end0
      exact ⟨rfl, HM1.out, HB1.out, HK1.out⟩
  · have d1 : decide (m < s.f2) = false := decide_eq_false h1
    have e : lookS l t m s = m := by unfold lookS; rw [if_neg (fun h => h1 h.1)]
    rw [e]
    clear h1 e
    go_enter Try.func39, Try.ntmps39
    go_wp2_with fail
    go_end0
    exact ⟨rfl, blk_alloc HM.out _, below_alloc HB.out _, (Kept.refl w _).alloc _⟩
/-! ### block_Of: function 25 (by hand) -/
def blkT (l : List (S41)) (t m : Int) (x : S41) : Int := if x.f1 ≤ t then m else x.f3.foldl (lookS l t) m
def blk (l : List (S41)) (t : Int) : Int := l.foldl (blkT l t) 0
def block_Of.f (l0 : List (S41)) (a1 : Int) : Option (Int × Int) := if okAll l0 = true then some (blk l0 a1, 0) else none
set_option maxHeartbeats 8000000 in
set_option maxRecDepth 100000 in
theorem block_Of.calls (A0 : Option Addr) (c0 : Nat) (l0 : List (S41)) (a1 : Int) (r1 r2 : Int) (w : World) (hr0 : Kd.C k41 w A0 l0.length l0) (hc0 : l0.length ≤ c0) (h : block_Of.f l0 a1 = some (r1, r2)) :
    Calls Try.prog 25 #[.slice A0 l0.length c0, .int .i64 a1] w fun e w' => e = .returned (.tuple #[.int .i64 r1, .int .i64 r2]) ∧ Below w.heap.size w w' := by
  have hu41 := Try.underlying41
  have hu63 := Try.underlying63
  unfold block_Of.f at h
  split at h
  case isFalse => cases h
  case isTrue hok =>
  obtain ⟨rfl, rfl⟩ := Prod.mk.inj (Option.some.inj h)
  clear h
  have hok2 := hok
  simp only [okAll, Bool.and_eq_true, List.all_eq_true, decide_eq_true_eq] at hok2
  obtain ⟨hokT, hl8⟩ := hok2
  obtain ⟨K, hK⟩ := (task_All.ev l0 (by omega)).rounds
  rw [hok] at hK
  have HK := Aside0.mk hK
  have HR0 := Aside0.mk hr0
  have HC0 := Aside0.mk hc0
  have HT := Aside0.mk hokT
  clear hK hok hr0 hc0 hokT
  go_enter Try.func25, Try.ntmps25
  go_wp2_with fail
  refine (task_All.calls K A0 c0 l0 true _ ?s1 HC0.out HK.out).mono ?_
  case s1 => exact Kd.C_alloc (Kd.C_alloc HR0.out _) _
  rintro e w1 ⟨rfl, hb1⟩
  have HL := Aside0.mk (blk_below (blk_alloc (blk_new w (.cells #[.slice A0 l0.length c0] 22)) (.cells #[.int .i64 a1] 3)) hb1)
  have HTt := Aside0.mk (show w1.heap[w.heap.size + 1]? = some (.cells #[.int .i64 a1] 3 (0, 0)) from by simpa using blk_below (blk_new (w.alloc (.cells #[.slice A0 l0.length c0] 22)) (.cells #[.int .i64 a1] 3)) hb1)
  have HB := Aside0.mk (below_weaken (below_alloc (below_alloc (Below.refl w.heap.size w) (.cells #[.slice A0 l0.length c0] 22)) (.cells #[.int .i64 a1] 3)) (below_alloc (below_alloc (Below.refl w.heap.size w) (.cells #[.slice A0 l0.length c0] 22)) (.cells #[.int .i64 a1] 3)).size hb1)
  have cl := blk_cell0 HL.out
  have ct := blk_cell0 HTt.out
  have hg0 : w.heap.size < w1.heap.size := blk_lt HL.out
  have hg1 : w.heap.size + 1 < w1.heap.size := blk_lt HTt.out
  clear hb1
  go_wp2_with fail
  go_loopg [18] l0.length (fun kq v18 w' => ∃ (i : Int) (pre rest : List (S41)), v18 = .int .i64 i ∧ Aside0 (l0 = pre ++ rest ∧ i = pre.length ∧ kq = rest.length) ∧ Aside0 (w'.heap[w1.heap.size]? = some (.cells #[.int .i64 (pre.foldl (blkT l0 a1) 0)] 3 (0, 0))) ∧ Aside0 (w'.heap[w.heap.size]? = some (.cells #[.slice A0 l0.length c0] 22 (0, 0))) ∧ Aside0 (w'.heap[w.heap.size + 1]? = some (.cells #[.int .i64 a1] 3 (0, 0))) ∧ Aside0 (Below w.heap.size w w'))
  case atStart =>
    exact ⟨0, [], l0, rfl, ⟨rfl, rfl, rfl⟩, ⟨by simpa using blk_new w1 (.cells #[.int .i64 0] 3)⟩, ⟨blk_alloc HL.out _⟩, ⟨blk_alloc HTt.out _⟩, ⟨below_alloc HB.out _⟩⟩
  case round =>
    clear cl ct HL HTt HB
    obtain ⟨i, pre, rest, rfl, HI, HS, HL, HTt, HBr⟩ := hrel
    obtain ⟨hI1, hI2, hI3⟩ := HI.out
    have ct := blk_cell0 HTt.out
    have cl := blk_cell0 HL.out
    have gr0 : w.heap.size < wr.heap.size := blk_lt HL.out
    have gr1 : w.heap.size + 1 < wr.heap.size := blk_lt HTt.out
    have gr2 : w1.heap.size < wr.heap.size := blk_lt HS.out
    cases rest with
    | nil =>
      have E1 := Aside0.mk (show blk l0 a1 = pre.foldl (blkT l0 a1) 0 from by unfold blk; rw [show l0.foldl (blkT l0 a1) 0 = (pre ++ []).foldl (blkT l0 a1) 0 from by rw [← hI1]]; simp)
      have c1 : decide (i < (l0.length : Int)) = false := decide_eq_false (by rw [hI1]; simp; omega)
      have cs2 := blk_cell0 HS.out
      clear hI1 hI2 hI3
      go_wp2_with fail
      go_ret2
      exact ⟨by rw [E1.out]; rfl, HBr.out⟩
    | cons a rest =>
      have hi0 : 0 ≤ i := by omega
      have hi1 : i < (l0.length : Int) := by rw [hI1]; simp; omega
      have hrd : rd_T41 l0 i = a := by rw [hI1, hI2]; exact getD_mid _ _ _ _
      obtain ⟨ad, A3, c3, ea, x0, x1, x2, x3, hl3, hi3⟩ := at_T41 HR0.out i hi0 hi1
      cases ea
      rw [hrd] at x0 x1 x2 x3 hl3 hi3
      replace x0 := (HBr.out.cell (World.block_lt_of_cell? w _ x0)).trans x0
      replace x1 := (HBr.out.cell (World.block_lt_of_cell? w _ x1)).trans x1
      replace x2 := (HBr.out.cell (World.block_lt_of_cell? w _ x2)).trans x2
      replace x3 := (HBr.out.cell (World.block_lt_of_cell? w _ x3)).trans x3
      have HR3 := Aside0.mk hi3
      have HC3 := Aside0.mk hl3
      have c1 : decide (i < (l0.length : Int)) = true := decide_eq_true hi1
      have haT : okT a = true := HT.out a (by rw [hI1]; simp)
      have hasl : a.f3.length ≤ 4 := (okTask_nums haT).2.2.2.2.1
      have HI0 := Aside0.mk hI3
      have HI := Aside0.mk (show l0 = (pre ++ [a]) ++ rest ∧ i + 1 = ((pre ++ [a]).length : Nat) from ⟨by rw [hI1]; simp, by rw [hI2]; simp⟩)
      have hi2 : i + 1 ≤ 9 := by omega
      by_cases hd : a.f1 ≤ a1
      · have d2 : decide (a.f1 ≤ a1) = true := decide_eq_true hd
        have E2 := Aside0.mk (show (pre ++ [a]).foldl (blkT l0 a1) 0 = pre.foldl (blkT l0 a1) 0 from by simp [blkT, hd])
        clear hI1 hI2 hI3 hrd hi3 hl3 hd haT hasl
        go_wp2_with fail
        go_roundg rest.length
        case measure => have := HI0.out; simp at this; omega
        case rel => exact ⟨i + 1, pre ++ [a], rest, (by first | rfl | (simp; done) | (simp [*]; done)), ⟨HI.out.1, HI.out.2, rfl⟩, ⟨by rw [E2.out]; exact blk_alloc HS.out _⟩, ⟨blk_alloc HL.out _⟩, ⟨blk_alloc HTt.out _⟩, ⟨below_alloc HBr.out _⟩⟩
      · have d2 : decide (a.f1 ≤ a1) = false := decide_eq_false hd
        have E2 := Aside0.mk (show (pre ++ [a]).foldl (blkT l0 a1) 0 = a.f3.foldl (lookS l0 a1) (pre.foldl (blkT l0 a1) 0) from by simp [blkT, hd])
        clear hI1 hI2 hI3 hrd hi3 hl3 hd haT
        go_wp2_with fail
        obtain ⟨W, hW⟩ : ∃ W : World, W = (wr.alloc (Obj.cells #[Value.int IntKind.i64 a.f0, Value.int IntKind.i64 a.f1, Value.int IntKind.i64 a.f2, Value.slice A3 a.f3.length c3] 41)) := ⟨_, rfl⟩
        rw [← hW]
        have HSW := Aside0.mk (show W.heap[w1.heap.size]? = some (.cells #[.int .i64 (pre.foldl (blkT l0 a1) 0)] 3 (0, 0)) from by rw [hW]; exact blk_alloc HS.out _)
        have HLW := Aside0.mk (show W.heap[w.heap.size]? = some (.cells #[.slice (some ad) l0.length c0] 22 (0, 0)) from by rw [hW]; exact blk_alloc HL.out _)
        have HTW := Aside0.mk (show W.heap[w.heap.size + 1]? = some (.cells #[.int .i64 a1] 3 (0, 0)) from by rw [hW]; exact blk_alloc HTt.out _)
        have HBW := Aside0.mk (show Below w.heap.size w W from by rw [hW]; exact below_alloc HBr.out _)
        have HGS := Aside0.mk (show w.heap.size ≤ w1.heap.size from by omega)
        clear hW HBr HS HTt HL ct cl x0 x1 x2 x3 gr0 gr1 gr2
        go_loopg [29] a.f3.length (fun kq v29 w' => ∃ (j : Int) (p2 r2 : List (S63)), v29 = .int .i64 j ∧ Aside0 (a.f3 = p2 ++ r2 ∧ j = p2.length ∧ kq = r2.length) ∧ Aside0 (w'.heap[w1.heap.size]? = some (.cells #[.int .i64 (p2.foldl (lookS l0 a1) (pre.foldl (blkT l0 a1) 0))] 3 (0, 0))) ∧ Aside0 (w'.heap[w.heap.size]? = some (.cells #[.slice (some ad) l0.length c0] 22 (0, 0))) ∧ Aside0 (w'.heap[w.heap.size + 1]? = some (.cells #[.int .i64 a1] 3 (0, 0))) ∧ Aside0 (Below w.heap.size w w'))
        case atStart => exact ⟨0, [], a.f3, rfl, ⟨rfl, rfl, rfl⟩, HSW, HLW, HTW, HBW⟩
        case round =>
          clear HSW HLW HTW HBW
          obtain ⟨j, p2, r2, rfl, HJ, HS, HL, HTt, HBr⟩ := hrel
          obtain ⟨hJ1, hJ2, hJ3⟩ := HJ.out
          cases r2 with
          | nil =>
            have E3 := Aside0.mk (show (pre ++ [a]).foldl (blkT l0 a1) 0 = p2.foldl (lookS l0 a1) (pre.foldl (blkT l0 a1) 0) from by rw [E2.out, hJ1]; simp)
            have c2 : decide (j < (a.f3.length : Int)) = false := decide_eq_false (by rw [hJ1]; simp; omega)
            clear hJ1 hJ2 hJ3
            go_wp2_with fail
            go_roundg rest.length
            case measure => have := HI0.out; simp at this; omega
            case rel => exact ⟨i + 1, pre ++ [a], rest, (by first | rfl | (simp; done) | (simp [*]; done)), ⟨HI.out.1, HI.out.2, rfl⟩, ⟨by rw [E3.out]; exact HS.out⟩, HL, HTt, HBr⟩
          | cons b r2 =>
            have hj0 : 0 ≤ j := by omega
            have hj1 : j < (a.f3.length : Int) := by rw [hJ1]; simp; omega
            have hrd : rd_T63 a.f3 j = b := by rw [hJ1, hJ2]; exact getD_mid _ _ _ _
            obtain ⟨ad3, ea, y0, y1, y2⟩ := at_T63 HR3.out j hj0 hj1
            cases ea
            rw [hrd] at y0 y1 y2
            replace y0 := (HBr.out.cell (World.block_lt_of_cell? w _ y0)).trans y0
            replace y1 := (HBr.out.cell (World.block_lt_of_cell? w _ y1)).trans y1
            replace y2 := (HBr.out.cell (World.block_lt_of_cell? w _ y2)).trans y2
            have c2 : decide (j < (a.f3.length : Int)) = true := decide_eq_true hj1
            have HJ0 := Aside0.mk hJ3
            have E3 := Aside0.mk (show (p2 ++ [b]).foldl (lookS l0 a1) (pre.foldl (blkT l0 a1) 0) = lookS l0 a1 (p2.foldl (lookS l0 a1) (pre.foldl (blkT l0 a1) 0)) b from by simp)
            have HJ1 := Aside0.mk (show a.f3 = (p2 ++ [b]) ++ r2 ∧ j + 1 = ((p2 ++ [b]).length : Nat) from ⟨by rw [hJ1]; simp, by rw [hJ2]; simp⟩)
            have hj2 : j + 1 ≤ 9 := by omega
            clear hJ1 hJ2 hJ3 hrd
            go_wp2_with fail
            refine (block_Of_1.calls _ c0 l0 a1 (p2.foldl (lookS l0 a1) (pre.foldl (blkT l0 a1) 0)) b w1.heap.size w.heap.size (w.heap.size + 1) w _ HR0.out HC0.out HT.out hl8 (below_alloc HBr.out _) HGS.out (by omega) (by omega) (blk_alloc HS.out _) (blk_alloc HL.out _) (blk_alloc HTt.out _)).mono ?_
            rintro e w4 ⟨rfl, hm4, hb4, hk4⟩
            have HS4 := Aside0.mk hm4
            have HB4 := Aside0.mk hb4
            have HL4 := Aside0.mk (blk_kept (blk_alloc HL.out _) hk4 (by omega))
            have HT4 := Aside0.mk (blk_kept (blk_alloc HTt.out _) hk4 (by omega))
            clear hm4 hb4 hk4
            go_wp2_with fail
            go_roundg r2.length
            case measure => have := HJ0.out; simp at this; omega
            case rel => exact ⟨j + 1, p2 ++ [b], r2, (by first | rfl | (simp; done) | (simp [*]; done)), ⟨HJ1.out.1, HJ1.out.2, rfl⟩, ⟨by rw [E3.out]; exact HS4.out⟩, HL4, HT4, HB4⟩
/-! ### verdict_Need: function 13 -/
def verdict_Need.f (k : Nat) (l0 : List (S41)) (a1 : Int) : Option (Int × Int) := (demand_Bound.f l0 a1).bind fun bt165 => (if bt165.2 = 0 then ((block_Of.f l0 a1).bind fun bt167 => ((arith_Add.f k bt165.1 bt167.1).bind fun bt169 => (some (bt169.1, bt169.2)))) else (some (0, bt165.2)))
set_option maxHeartbeats 8000000 in
set_option maxRecDepth 100000 in
theorem verdict_Need.calls (k : Nat) (A0 : Option Addr) (c0 : Nat) (l0 : List (S41)) (a1 : Int) (r1 : Int) (r2 : Int) (w : World) (hr0 : Kd.C k41 w A0 l0.length l0) (hc0 : l0.length ≤ c0) (h : verdict_Need.f k l0 a1 = some (r1, r2)) :
  Calls Try.prog 13 #[.slice A0 l0.length c0, .int .i64 a1] w fun e w' => e = .returned (.tuple #[.int .i64 r1, .int .i64 r2]) ∧ Below w.heap.size w w' := by
 have HR0 := Aside0.mk hr0
 have HC0 := Aside0.mk hc0
 clear hr0 hc0
 have HB := Aside0.mk (Below.refl w.heap.size w)
 have H : ((demand_Bound.f l0 a1).bind fun bt165 => (if bt165.2 = 0 then ((block_Of.f l0 a1).bind fun bt167 => ((arith_Add.f k bt165.1 bt167.1).bind fun bt169 => (some (bt169.1, bt169.2)))) else (some (0, bt165.2)))) = some (r1, r2) := h
 clear h
 replace H := Option.bind_eq_some_iff.mp H
 obtain ⟨⟨t165, t166⟩, A30, H⟩ := H
 replace H : (if t166 = 0 then ((block_Of.f l0 a1).bind fun bt167 => ((arith_Add.f k t165 bt167.1).bind fun bt169 => (some (bt169.1, bt169.2)))) else (some (0, t166))) = some (r1, r2) := H
 have A3 := Aside0.mk A30
 clear A30
 by_cases c4 : t166 = 0
 ·rw [if_pos c4] at H
  have c4b0 : (t166 == 0) = true := beq_iff_eq.mpr c4
  have c4b1 : (t166 != 0) = false := bne_eq_false_iff_eq.mpr c4
  clear c4
  replace H := Option.bind_eq_some_iff.mp H
  obtain ⟨⟨t167, t168⟩, A50, H⟩ := H
  replace H : ((arith_Add.f k t165 t167).bind fun bt169 => (some (bt169.1, bt169.2))) = some (r1, r2) := H
  have A5 := Aside0.mk A50
  clear A50
  replace H := Option.bind_eq_some_iff.mp H
  obtain ⟨⟨t169, t170⟩, A60, H⟩ := H
  replace H : (some (t169, t170)) = some (r1, r2) := H
  have A6 := Aside0.mk A60
  clear A60
  simp only [Option.some.injEq, Prod.mk.injEq] at H
  obtain ⟨rfl, rfl⟩ := H
  go_enter Try.func13, Try.ntmps13
  go_wp2_with (first | ((with_reducible refine gate_callee (f := 17) rfl ?_); refine goesL_ (some 13) rfl rfl Try.func17 (by kernel_rfl) rfl #[.slice A0 l0.length c0, .int .i64 a1] rfl (by (try simp only [List.map_toArray, List.map_cons, List.map_nil]); first | done | rfl | (simp only [List.length_drop, List.length_take]; rfl)) ?_; (with_reducible refine (demand_Bound.calls _ _ l0 a1 t165 t166 _ ?side1 ?side2 A3.out).mono ?_); (case side1 => repeat (first | exact HR0.out | (with_reducible refine Kd.C_alloc ?_ _) | (with_reducible refine Kd.C_drewN ?_ _) | (with_reducible refine Kd.C_drew ?_))); (case side2 => exact HC0.out); rintro e w7 ⟨rfl, hb⟩; refine ⟨_, rfl, ?_⟩; have n0_ := Aside0.mk (below_step (by repeat (first | (with_reducible first | exact HB.out | apply below_alloc | apply pw_below_drewN | apply below_drew1) | exact HB.out)) hb); clear HB; have HB := n0_; clear n0_; (try clear hb); (try clear hb2); (try clear hk); (try clear hi)) | ((with_reducible refine gate_callee (f := 25) rfl ?_); refine goesL_ (some 22) rfl rfl Try.func25 (by kernel_rfl) rfl #[.slice A0 l0.length c0, .int .i64 a1] rfl (by (try simp only [List.map_toArray, List.map_cons, List.map_nil]); first | done | rfl | (simp only [List.length_drop, List.length_take]; rfl)) ?_; (with_reducible refine (block_Of.calls _ _ l0 a1 t167 t168 _ ?side1 ?side2 A5.out).mono ?_); (case side1 => repeat (first | exact (Kd.C_below HR0.out HB.out) | (with_reducible refine Kd.C_alloc ?_ _) | (with_reducible refine Kd.C_drewN ?_ _) | (with_reducible refine Kd.C_drew ?_))); (case side2 => exact HC0.out); rintro e w8 ⟨rfl, hb⟩; refine ⟨_, rfl, ?_⟩; have n0_ := Aside0.mk (below_step (by repeat (first | (with_reducible first | exact HB.out | apply below_alloc | apply pw_below_drewN | apply below_drew1) | exact HB.out)) hb); clear HB; have HB := n0_; clear n0_; (try clear hb); (try clear hb2); (try clear hk); (try clear hi)) | ((with_reducible refine gate_callee (f := 26) rfl ?_); refine goesL_ (some 27) rfl rfl Try.func26 (by kernel_rfl) rfl #[.int .i64 t165, .int .i64 t167] rfl (by (try simp only [List.map_toArray, List.map_cons, List.map_nil]); first | done | rfl | (simp only [List.length_drop, List.length_take]; rfl)) ?_; (with_reducible refine (arith_Add.calls k t165 t167 t169 t170 _ A6.out).mono ?_); rintro e w9 ⟨rfl, hb⟩; refine ⟨_, rfl, ?_⟩; have n0_ := Aside0.mk (below_step (by repeat (first | (with_reducible first | exact HB.out | apply below_alloc | apply pw_below_drewN | apply below_drew1) | exact HB.out)) hb); clear HB; have HB := n0_; clear n0_; (try clear hb); (try clear hb2); (try clear hk); (try clear hi)))
  go_ret2
  exact ⟨by first | rfl | (simp [errW_none, errW_some] <;> rfl) | (simp [*, errW_none, errW_some] <;> rfl), by repeat (first | (with_reducible first | exact HB.out | apply below_alloc | apply pw_below_drewN | apply below_drew1) | exact HB.out)⟩
 ·rw [if_neg c4] at H
  have c4b0 : (t166 == 0) = false := beq_eq_false_iff_ne.mpr c4
  have c4b1 : (t166 != 0) = true := bne_iff_ne.mpr c4
  simp only [Option.some.injEq, Prod.mk.injEq] at H
  obtain ⟨rfl, rfl⟩ := H
  go_enter Try.func13, Try.ntmps13
  go_wp2_with (first | ((with_reducible refine gate_callee (f := 17) rfl ?_); refine goesL_ (some 13) rfl rfl Try.func17 (by kernel_rfl) rfl #[.slice A0 l0.length c0, .int .i64 a1] rfl (by (try simp only [List.map_toArray, List.map_cons, List.map_nil]); first | done | rfl | (simp only [List.length_drop, List.length_take]; rfl)) ?_; (with_reducible refine (demand_Bound.calls _ _ l0 a1 t165 t166 _ ?side1 ?side2 A3.out).mono ?_); (case side1 => repeat (first | exact HR0.out | (with_reducible refine Kd.C_alloc ?_ _) | (with_reducible refine Kd.C_drewN ?_ _) | (with_reducible refine Kd.C_drew ?_))); (case side2 => exact HC0.out); rintro e w10 ⟨rfl, hb⟩; refine ⟨_, rfl, ?_⟩; have n0_ := Aside0.mk (below_step (by repeat (first | (with_reducible first | exact HB.out | apply below_alloc | apply pw_below_drewN | apply below_drew1) | exact HB.out)) hb); clear HB; have HB := n0_; clear n0_; (try clear hb); (try clear hb2); (try clear hk); (try clear hi)))
  go_ret2
  exact ⟨by first | rfl | (simp [errW_none, errW_some] <;> rfl) | (simp [*, errW_none, errW_some] <;> rfl), by repeat (first | (with_reducible first | exact HB.out | apply below_alloc | apply pw_below_drewN | apply below_drew1) | exact HB.out)⟩
def need (l : List (S41)) (t : Int) : Int := dbf l t + blk l t
theorem lookS_bd {l : List (S41)} {t m : Int} {s : S63} (hm : 0 ≤ m ∧ m ≤ 200) (hs : s.f2 ≤ 200) : 0 ≤ lookS l t m s ∧ lookS l t m s ≤ 200 := by
  unfold lookS; split <;> omega
theorem blk_bd {l : List (S41)} {t : Int} (h : ∀ x ∈ l, okT x = true) : 0 ≤ blk l t ∧ blk l t ≤ 200 := by
  have hin : ∀ (q : List (S63)) (m : Int), (∀ s ∈ q, s.f2 ≤ 200) → 0 ≤ m ∧ m ≤ 200 → 0 ≤ q.foldl (lookS l t) m ∧ q.foldl (lookS l t) m ≤ 200 := by
    intro q
    induction q with
    | nil => intro m _ hm; simpa using hm
    | cons s q ih => intro m hs hm; exact ih _ (fun z hz => hs z (List.mem_cons_of_mem _ hz)) (lookS_bd hm (hs s List.mem_cons_self))
  have hout : ∀ (q : List (S41)) (m : Int), (∀ x ∈ q, okT x = true) → 0 ≤ m ∧ m ≤ 200 → 0 ≤ q.foldl (blkT l t) m ∧ q.foldl (blkT l t) m ≤ 200 := by
    intro q
    induction q with
    | nil => intro m _ hm; simpa using hm
    | cons x q ih =>
      intro m hx hm
      refine ih _ (fun z hz => hx z (List.mem_cons_of_mem _ hz)) ?_
      unfold blkT
      split
      · exact hm
      · refine hin _ _ (fun s hs => ?_) hm
        have h1 := okTask_nums (hx x List.mem_cons_self)
        have h2 := secsOk_all h1.2.2.2.2.2 s hs
        rw [okSec_iff] at h2
        omega
  exact hout l 0 h ⟨by omega, by omega⟩
theorem need_bd {l : List (S41)} {t : Int} (h : okAll l = true) (ht : 0 ≤ t) : 0 ≤ need l t ∧ need l t ≤ 1600 * (t + 1) + 200 := by
  obtain ⟨h1, h2⟩ := okAll_parts h
  have a := dbf_bd ht h1
  have b := blk_bd (t := t) h1
  have c : (l.length : Int) * (200 * (t + 1)) ≤ 8 * (200 * (t + 1)) := Int.mul_le_mul_of_nonneg_right (by omega) (by omega)
  unfold need
  omega
theorem verdict_Need.ev (k : Nat) (l : List (S41)) (t : Int) (h : okAll l = true) (ht : 0 ≤ t ∧ t ≤ 1125899906842624) : verdict_Need.f (k + 3) l t = some (need l t, 0) := by
  obtain ⟨h1, h2⟩ := okAll_parts h
  have a := dbf_bd ht.1 h1
  have b := blk_bd (t := t) h1
  have c := need_bd h ht.1
  unfold verdict_Need.f
  have e1 : demand_Bound.f l t = some (dbf l t, 0) := by unfold demand_Bound.f; rw [if_pos ⟨h, ht.1, ht.2⟩]
  have e2 : block_Of.f l t = some (blk l t, 0) := by unfold block_Of.f; rw [if_pos h]
  rw [e1, e2]
  simp only [Option.bind_some, if_true]
  rw [arith_Add.ev k _ _ a.1 b.1 (by unfold need at c; omega)]
  rfl
end Go.Proofs.Ytljgloljncokeaa.PQa
