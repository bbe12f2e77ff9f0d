-- Written by a program of this session (pp.py, over the kit's print) out of the translation; functions with closures by hand.
import Derived.Test.YtljgloljncokeaaQa0
import Derived.Test.YtljgloljncokeaaQa1
import Derived.Test.YtljgloljncokeaaQa2
import Derived.Test.YtljgloljncokeaaQa3
import Derived.Test.YtljgloljncokeaaQa6
namespace Go.Proofs.Ytljgloljncokeaa.PQa
open Go.RowKit Go.Proofs.YtljgloljncokeaaW.PrintWords Go.Proofs.YtljgloljncokeaaW.PrintLast Go.Proofs.YtljgloljncokeaaW.PrintMore
attribute [local go_sem] max2_int min2_int max_two min_two max_three min_three max_four min_four   -- for this text's walks alone
set_option linter.unusedVariables false
set_option linter.unusedSimpArgs false

attribute [local go_sem high] eqA24

/-! ### face_Least_1: function 35 (by hand); and face_least, function 34, of this one -/
set_option maxHeartbeats 1600000 in
theorem face_Least_1.calls (A0 : Option Addr) (c0 : Nat) (l : List (S41)) (p b : Int) (gl gp : Nat) (w : World)
    (hr0 : Kd.C k41 w A0 l.length l) (hc0 : l.length ≤ c0) (hl : (l.length : Int) ≤ 1000000)
    (hgl : w.heap[gl]? = some (.cells #[.slice A0 l.length c0] 22 (0, 0))) (hgp : w.heap[gp]? = some (.cells #[.int .i64 p] 3 (0, 0))) :
    Calls Try.prog 35 #[.int .i64 b, .pointer (some ⟨gl, 0, none⟩), .pointer (some ⟨gp, 0, none⟩)] w fun e w' =>
      e = .returned (.bool (fitsR l p b).1) ∧ Below w.heap.size w w' := by
  have hu := Try.underlying24
  obtain ⟨K, hK⟩ := (verdict_Fits.ev l p b hl).rounds
  obtain ⟨q, er, hq⟩ : ∃ q er, fitsR l p b = (q, er) := ⟨_, _, rfl⟩
  rw [hq] at hK ⊢
  have HK := Aside0.mk hK
  have HR := Aside0.mk hr0
  have HC := Aside0.mk hc0
  have cl := blk_cell0 hgl
  have cp := blk_cell0 hgp
  have ll := blk_lt hgl
  have lp := blk_lt hgp
  clear hgl hgp hr0 hc0 hK hq
  go_enter Try.func35, Try.ntmps35
  go_wp2_with fail
  refine (verdict_Fits.calls K A0 c0 l p b q er _ HR.out HC.out HK.out).mono ?_
  rintro e w1 ⟨rfl, hb1⟩
  have HB := Aside0.mk hb1
  clear hb1
  go_wp2_with fail
  go_ret
  exact ⟨rfl, HB.out⟩
/-- The search by halves, as the program does it. -/
def halfS (l : List (S41)) (p : Int) : Nat → Int → Int → Int
  | 0, _, hi => hi
  | n + 1, lo, hi => if lo < hi then (if (fitsR l p (lo + (hi - lo) / 2)).1 = true then halfS l p n lo (lo + (hi - lo) / 2) else halfS l p n (lo + (hi - lo) / 2 + 1) hi) else hi
set_option maxHeartbeats 1600000 in
theorem face_least.calls (A0 : Option Addr) (c0 : Nat) (l : List (S41)) (p : Int) (gl gp : Nat) (w : World)
    (hr0 : Kd.C k41 w A0 l.length l) (hc0 : l.length ≤ c0) (hl : (l.length : Int) ≤ 1000000) (hp : 1 ≤ p ∧ p ≤ 200)
    (hgl : w.heap[gl]? = some (.cells #[.slice A0 l.length c0] 22 (0, 0))) (hgp : w.heap[gp]? = some (.cells #[.int .i64 p] 3 (0, 0))) :
    Calls Try.prog 34 #[.int .i64 1, .int .i64 p, .func (.func 35) #[] #[.pointer (some ⟨gl, 0, none⟩), .pointer (some ⟨gp, 0, none⟩)]] w fun e w' =>
      e = .returned (if (fitsR l p p).1 = true then .tuple #[.int .i64 (halfS l p 200 1 p), .bool true] else .tuple #[.int .i64 0, .bool false]) ∧ Below w.heap.size w w' := by
  have HR := Aside0.mk hr0
  have HC := Aside0.mk hc0
  have HL := Aside0.mk hgl
  have HP := Aside0.mk hgp
  clear hgl hgp hr0 hc0
  obtain ⟨q, hq⟩ : ∃ q, (fitsR l p p).1 = q := ⟨_, rfl⟩
  rw [hq]
  have HQ := Aside0.mk hq
  clear hq
  go_enter Try.func34, Try.ntmps34
  go_wp2_with fail
  refine (face_Least_1.calls A0 c0 l p p gl gp w HR.out HC.out hl HL.out HP.out).mono ?_
  rintro e w1 ⟨rfl, hb1⟩
  have HB := Aside0.mk hb1
  clear hb1
  rw [HQ.out]
  cases q with
  | false =>
    go_wp2_with fail
    go_ret2
    exact ⟨rfl, HB.out⟩
  | true =>
    go_wp2_with fail
    go_loopg [0, 1, 8] 200 (fun kq v0 v1 v8 w' => ∃ (n : Nat) (lo hi : Int), v0 = .int .i64 lo ∧ v1 = .int .i64 hi ∧ Aside0 (1 ≤ lo ∧ lo ≤ hi ∧ hi ≤ p ∧ hi - lo ≤ n ∧ kq = n) ∧ Aside0 (halfS l p n lo hi = halfS l p 200 1 p) ∧ Aside0 (Below w.heap.size w w'))
    case atStart => exact ⟨200, 1, p, rfl, rfl, ⟨by omega⟩, ⟨rfl⟩, HB⟩
    case round =>
      obtain ⟨n, lo, hi, rfl, rfl, HI, HS, HBr⟩ := hrel
      have HLr := Aside0.mk (blk_below HL.out HBr.out)
      have HPr := Aside0.mk (blk_below HP.out HBr.out)
      have HRr := Aside0.mk (Kd.C_below HR.out HBr.out)
      by_cases hlt : lo < hi
      · have d1 : decide (lo < hi) = true := decide_eq_true hlt
        cases n with
        | zero => exfalso; have := HI.out; omega
        | succ n =>
          have hI := HI.out
          have w1e : wrap64 (hi - lo) = hi - lo := w64 (by omega)
          have w2e : Int.tdiv (hi - lo) 2 = (hi - lo) / 2 := Int.tdiv_eq_ediv_of_nonneg (by omega)
          have w3e : wrap64 ((hi - lo) / 2) = (hi - lo) / 2 := w64 (by omega)
          have w4e : wrap64 (lo + (hi - lo) / 2) = lo + (hi - lo) / 2 := w64 (by omega)
          go_wp2_with fail
          refine (face_Least_1.calls A0 c0 l p (lo + (hi - lo) / 2) gl gp _ HRr.out HC.out hl HLr.out HPr.out).mono ?_
          rintro e w2 ⟨rfl, hb2⟩
          have HB2 := Aside0.mk (below_step HBr.out hb2)
          clear hb2
          obtain ⟨f, hf⟩ : ∃ f, (fitsR l p (lo + (hi - lo) / 2)).1 = f := ⟨_, rfl⟩
          rw [hf]
          have hS := HS.out
          unfold halfS at hS
          rw [if_pos hlt, hf] at hS
          cases f with
          | true =>
            rw [if_pos rfl] at hS
            have HS' := Aside0.mk hS
            clear hS hf w1e w2e w3e w4e
            go_wp2_with fail
            go_roundg n
            case measure => omega
            case rel => exact ⟨n, lo, _, rfl, rfl, ⟨by omega⟩, HS', HB2⟩
          | false =>
            rw [if_neg (by simp)] at hS
            have HS' := Aside0.mk hS
            have w5e : wrap64 (lo + (hi - lo) / 2 + 1) = lo + (hi - lo) / 2 + 1 := w64 (by omega)
            clear hS hf w1e w2e w3e w4e
            go_wp2_with fail
            go_roundg n
            case measure => omega
            case rel => exact ⟨n, _, hi, rfl, rfl, ⟨by omega⟩, HS', HB2⟩
      · have d1 : decide (lo < hi) = false := decide_eq_false hlt
        have e1 : halfS l p 200 1 p = hi := by rw [← HS.out]; cases n with | zero => rfl | succ n => unfold halfS; rw [if_neg hlt]
        have E1 := Aside0.mk e1
        clear e1
        go_wp2_with fail
        go_ret2
        exact ⟨by simp only [E1.out]; rfl, HBr.out⟩

/-! ### face_Least: function 20 (by hand) -/
theorem results_ct_ {P : Program} {fn : Func} {p u : Tmp} {ty : TypeId} (h : fn.results = #[.cell p ty, .tmp u]) (tmps : Array Value) (w : World) (g : Nat) (t : TypeId) (cs : Array Value) (fr : Nat × Nat) (d : TypeDesc)
    (hp : tmps.getD p undef = .pointer (some ⟨g, 0, none⟩)) (hg : w.heap[g]? = some (.cells cs t fr))
    (hu : P.underlying ty = some d) (hd : (match d with | .struct _ | .array _ _ => true | _ => false) = true) (hi : (P.info? ty).map (·.size) = some cs.size) :
    (results fn tmps).run P w = .ok (.tuple #[.agg cs, tmps.getD u undef]) w := by
  have hp' : tmps[p]?.getD undef = .pointer (some ⟨g, 0, none⟩) := by simpa using hp
  simp [results, h, hp', asAddr, run_loadVar_row w g t ty cs fr d hg hu hd hi]
/-- What the least interface of a period comes to: the interface, and the error. -/
def leastS (l : List (S41)) (p : Int) : Int × Int × Int := if okAll l = true ∧ 1 ≤ p ∧ p ≤ 200 then (if (fitsR l p 1).2 = 0 then (if (fitsR l p p).1 = true then (p, halfS l p 200 1 p, 0) else (0, 0, 7)) else (0, 0, (fitsR l p 1).2)) else (0, 0, 1)
def face_Least.f (l0 : List (S41)) (a1 : Int) : Option (Int × Int × Int) := if (l0.length : Int) ≤ 1000000 then some (leastS l0 a1) else none
set_option maxHeartbeats 8000000 in
set_option maxRecDepth 100000 in
theorem face_Least.calls (A0 : Option Addr) (c0 : Nat) (l0 : List (S41)) (a1 : Int) (r1 r2 r3 : Int) (w : World) (hr0 : Kd.C k41 w A0 l0.length l0) (hc0 : l0.length ≤ c0) (h : face_Least.f l0 a1 = some (r1, r2, r3)) :
    Calls Try.prog 20 #[.slice A0 l0.length c0, .int .i64 a1] w fun e w' => e = .returned (.tuple #[.agg #[.int .i64 r1, .int .i64 r2], .int .i64 r3]) ∧ Below w.heap.size w w' := by
  have hu := Try.underlying24
  unfold face_Least.f at h
  split at h
  case isFalse => cases h
  case isTrue hlen =>
  have hfin := Option.some.inj h
  clear h
  obtain ⟨K, hK⟩ := (task_All.ev l0 (by omega)).rounds
  obtain ⟨K2, hK2⟩ := (verdict_Fits.ev l0 a1 1 hlen).rounds
  have HK2 := Aside0.mk hK2
  have HR0 := Aside0.mk hr0
  have HC0 := Aside0.mk hc0
  have HFIN := Aside0.mk hfin
  obtain ⟨q, hq⟩ : ∃ q, okAll l0 = q := ⟨_, rfl⟩
  rw [hq] at hK
  have HQ := Aside0.mk hq
  have HK := Aside0.mk hK
  clear hK hK2 hr0 hc0 hfin hq
  go_enter Try.func20, Try.ntmps20
  go_wp2_with fail
  refine (task_All.calls K A0 c0 l0 q _ ?s1 HC0.out HK.out).mono ?_
  case s1 => exact Kd.C_alloc (Kd.C_alloc (Kd.C_alloc HR0.out _) _) _
  rintro e w1 ⟨rfl, hb1⟩
  have HL := Aside0.mk (blk_below (blk_alloc (blk_alloc (blk_new w (.cells #[.slice A0 l0.length c0] 22)) (.cells #[.int .i64 a1] 3)) (.cells #[.int .i64 0, .int .i64 0] 24)) hb1)
  have HP := Aside0.mk (show w1.heap[w.heap.size + 1]? = some (.cells #[.int .i64 a1] 3 (0, 0)) from by simpa using blk_below (blk_alloc (blk_new (w.alloc (.cells #[.slice A0 l0.length c0] 22)) (.cells #[.int .i64 a1] 3)) (.cells #[.int .i64 0, .int .i64 0] 24)) hb1)
  have HX := Aside0.mk (show w1.heap[w.heap.size + 2]? = some (.cells #[.int .i64 0, .int .i64 0] 24 (0, 0)) from by simpa using blk_below (blk_new ((w.alloc (.cells #[.slice A0 l0.length c0] 22)).alloc (.cells #[.int .i64 a1] 3)) (.cells #[.int .i64 0, .int .i64 0] 24)) hb1)
  have HB := Aside0.mk (below_weaken (below_alloc (below_alloc (below_alloc (Below.refl w.heap.size w) (.cells #[.slice A0 l0.length c0] 22)) (.cells #[.int .i64 a1] 3)) (.cells #[.int .i64 0, .int .i64 0] 24)) (below_alloc (below_alloc (below_alloc (Below.refl w.heap.size w) (.cells #[.slice A0 l0.length c0] 22)) (.cells #[.int .i64 a1] 3)) (.cells #[.int .i64 0, .int .i64 0] 24)).size hb1)
  have cx0 := (blk_cell HX.out 0).trans rfl
  have fx0 := blk_frozen HX.out 0
  have cx1 := (blk_cell HX.out 1).trans rfl
  have fx1 := blk_frozen HX.out 1
  have hg2 : w.heap.size + 2 < w1.heap.size := blk_lt HX.out
  have cl := blk_cell0 HL.out
  have cp := blk_cell0 HP.out
  have hg0 : w.heap.size < w1.heap.size := blk_lt HL.out
  have hg1 : w.heap.size + 1 < w1.heap.size := blk_lt HP.out
  clear hb1
  cases q with
  | false =>
    have e1 : leastS l0 a1 = (0, 0, 1) := by unfold leastS; rw [if_neg (by rw [HQ.out]; simp)]
    rw [HFIN.out] at e1
    obtain ⟨rfl, rfl, rfl⟩ : r1 = 0 ∧ r2 = 0 ∧ r3 = 1 := by simpa using e1
    clear e1
    go_wp2_with fail
    refine bodyPost_ret (results_ct_ rfl _ _ (w.heap.size + 2) 24 #[.int .i64 0, .int .i64 0] (0, 0) _ rfl (blk_put (blk_put HX.out 0 _ rfl) 1 _ rfl) Try.underlying24 rfl (by kernel_rfl)) rfl ?_
    exact ⟨rfl, below_set (below_set HB.out (by omega)) (by omega)⟩
  | true =>
    by_cases h1 : a1 < 1
    · have d1 : decide (a1 < 1) = true := decide_eq_true h1
      have e1 : leastS l0 a1 = (0, 0, 1) := by unfold leastS; rw [if_neg (by omega)]
      rw [HFIN.out] at e1
      obtain ⟨rfl, rfl, rfl⟩ : r1 = 0 ∧ r2 = 0 ∧ r3 = 1 := by simpa using e1
      clear e1
      go_wp2_with fail
      refine bodyPost_ret (results_ct_ rfl _ _ (w.heap.size + 2) 24 #[.int .i64 0, .int .i64 0] (0, 0) _ rfl (blk_put (blk_put HX.out 0 _ rfl) 1 _ rfl) Try.underlying24 rfl (by kernel_rfl)) rfl ?_
      exact ⟨rfl, below_set (below_set HB.out (by omega)) (by omega)⟩
    · have d1 : decide (a1 < 1) = false := decide_eq_false h1
      by_cases h2 : 200 < a1
      · have d2 : decide (200 < a1) = true := decide_eq_true h2
        have e1 : leastS l0 a1 = (0, 0, 1) := by unfold leastS; rw [if_neg (by omega)]
        rw [HFIN.out] at e1
        obtain ⟨rfl, rfl, rfl⟩ : r1 = 0 ∧ r2 = 0 ∧ r3 = 1 := by simpa using e1
        clear e1
        go_wp2_with fail
        refine bodyPost_ret (results_ct_ rfl _ _ (w.heap.size + 2) 24 #[.int .i64 0, .int .i64 0] (0, 0) _ rfl (blk_put (blk_put HX.out 0 _ rfl) 1 _ rfl) Try.underlying24 rfl (by kernel_rfl)) rfl ?_
        exact ⟨rfl, below_set (below_set HB.out (by omega)) (by omega)⟩
      · have d2 : decide (200 < a1) = false := decide_eq_false h2
        obtain ⟨f1, e1, hf⟩ : ∃ f1 e1, fitsR l0 a1 1 = (f1, e1) := ⟨_, _, rfl⟩
        have HF1 := Aside0.mk hf
        have hp : 1 ≤ a1 ∧ a1 ≤ 200 := by omega
        have HRb := Aside0.mk (Kd.C_below HR0.out HB.out)
        clear hf
        go_wp2_with fail
        refine (verdict_Fits.calls K2 A0 c0 l0 a1 1 f1 e1 _ HRb.out HC0.out (by rw [HK2.out, HF1.out])).mono ?_
        rintro e w2 ⟨rfl, hb2⟩
        have HL2 := Aside0.mk (blk_below HL.out hb2)
        have HP2 := Aside0.mk (blk_below HP.out hb2)
        have HX2 := Aside0.mk (blk_below HX.out hb2)
        have HB2 := Aside0.mk (below_step HB.out hb2)
        replace cx0 := (blk_cell HX2.out 0).trans rfl
        replace fx0 := blk_frozen HX2.out 0
        replace cx1 := (blk_cell HX2.out 1).trans rfl
        replace fx1 := blk_frozen HX2.out 1
        replace cl := blk_cell0 HL2.out
        replace cp := blk_cell0 HP2.out
        have hg2 : w1.heap.size ≤ w2.heap.size := hb2.size
        clear hb2
        by_cases h3 : e1 = 0
        · subst h3
          have HR2 := Aside0.mk (Kd.C_below HR0.out HB2.out)
          obtain ⟨fp, hfp⟩ : ∃ fp, (fitsR l0 a1 a1).1 = fp := ⟨_, rfl⟩
          have HFP := Aside0.mk hfp
          clear hfp
          go_wp2_with fail
          refine (face_least.calls A0 c0 l0 a1 w.heap.size (w.heap.size + 1) _ HR2.out HC0.out hlen hp HL2.out HP2.out).mono ?_
          rw [HFP.out]
          rintro e w3 ⟨rfl, hb3⟩
          have HB3 := Aside0.mk (below_step HB2.out hb3)
          have hg3 : w2.heap.size ≤ w3.heap.size := hb3.size
          replace cp := blk_cell0 (blk_below HP2.out hb3)
          have HX3 := Aside0.mk (blk_below HX2.out hb3)
          replace cx0 := (blk_cell HX3.out 0).trans rfl
          replace fx0 := blk_frozen HX3.out 0
          replace cx1 := (blk_cell HX3.out 1).trans rfl
          replace fx1 := blk_frozen HX3.out 1
          clear hb3
          cases fp with
          | true =>
            have e1 : leastS l0 a1 = (a1, halfS l0 a1 200 1 a1, 0) := by unfold leastS; rw [if_pos ⟨HQ.out, hp⟩, HF1.out, if_pos rfl, if_pos HFP.out]
            rw [HFIN.out] at e1
            obtain ⟨rfl, rfl, rfl⟩ : r1 = a1 ∧ r2 = halfS l0 a1 200 1 a1 ∧ r3 = 0 := by simpa using e1
            clear e1
            go_wp2_with fail
            refine bodyPost_ret (results_ct_ rfl _ _ (w.heap.size + 2) 24 #[.int .i64 r1, .int .i64 (halfS l0 r1 200 1 r1)] (0, 0) _ rfl (blk_put (blk_put HX3.out 0 _ rfl) 1 _ rfl) Try.underlying24 rfl (by kernel_rfl)) rfl ?_
            exact ⟨rfl, below_set (below_set HB3.out (by omega)) (by omega)⟩
          | false =>
            have e1 : leastS l0 a1 = (0, 0, 7) := by unfold leastS; rw [if_pos ⟨HQ.out, hp⟩, HF1.out, if_pos rfl, if_neg (by rw [HFP.out]; simp)]
            rw [HFIN.out] at e1
            obtain ⟨rfl, rfl, rfl⟩ : r1 = 0 ∧ r2 = 0 ∧ r3 = 7 := by simpa using e1
            clear e1
            go_wp2_with fail
            refine bodyPost_ret (results_ct_ rfl _ _ (w.heap.size + 2) 24 #[.int .i64 0, .int .i64 0] (0, 0) _ rfl (blk_put (blk_put HX3.out 0 _ rfl) 1 _ rfl) Try.underlying24 rfl (by kernel_rfl)) rfl ?_
            exact ⟨rfl, below_set (below_set HB3.out (by omega)) (by omega)⟩
        · have d3 : (e1 != 0) = true := bne_iff_ne.mpr h3
          have e4 : leastS l0 a1 = (0, 0, e1) := by unfold leastS; rw [if_pos ⟨HQ.out, hp⟩, HF1.out, if_neg h3]
          rw [HFIN.out] at e4
          obtain ⟨rfl, rfl, rfl⟩ : r1 = 0 ∧ r2 = 0 ∧ r3 = e1 := by simpa using e4
          clear e4
          go_wp2_with fail
          refine bodyPost_ret (results_ct_ rfl _ _ (w.heap.size + 2) 24 #[.int .i64 0, .int .i64 0] (0, 0) _ rfl (blk_put (blk_put HX2.out 0 _ rfl) 1 _ rfl) Try.underlying24 rfl (by kernel_rfl)) rfl ?_
          exact ⟨rfl, below_set (below_set HB2.out (by omega)) (by omega)⟩

/-! ### remontoirlaw11_knows: function 19 -/
def remontoirlaw11_knows.f  : Option (Bool) := (some (([(⟨1, 4, 4, ([] : List (S63))⟩ : S41)] : List (S41)) : List (S41))).bind fun y273 => ((face_Least.f y273 2).bind fun bt276 => ((face_Least.f y273 4).bind fun bt280 => ((face_Least.f (([(⟨4, 4, 4, ([] : List (S63))⟩ : S41), (⟨1, 4, 4, ([] : List (S63))⟩ : S41)] : List (S41))) 2).bind fun bt287 => (if (bt276.1 == 2 && (bt276.2.1 == 1)) = true then (if bt276.2.2 = 0 then (if (bt280.1 == 4 && (bt280.2.1 == 3)) = true then (if bt280.2.2 = 0 then (some (bt287.2.2 == 7)) else (some false)) else (some false)) else (some false)) else (some false)))))
set_option maxHeartbeats 8000000 in
set_option maxRecDepth 100000 in
theorem remontoirlaw11_knows.calls  (r : Bool) (w : World) (h : remontoirlaw11_knows.f  = some r) :
  Calls Try.prog 19 #[] w fun e w' => e = .returned (.bool r) ∧ Below w.heap.size w w' := by
 have hu41 := Try.underlying41
 have hu24 := Try.underlying24
 have HB := Aside0.mk (Below.refl w.heap.size w)
 have H : ((some (([(⟨1, 4, 4, ([] : List (S63))⟩ : S41)] : List (S41)) : List (S41))).bind fun y273 => ((face_Least.f y273 2).bind fun bt276 => ((face_Least.f y273 4).bind fun bt280 => ((face_Least.f (([(⟨4, 4, 4, ([] : List (S63))⟩ : S41), (⟨1, 4, 4, ([] : List (S63))⟩ : S41)] : List (S41))) 2).bind fun bt287 => (if (bt276.1 == 2 && (bt276.2.1 == 1)) = true then (if bt276.2.2 = 0 then (if (bt280.1 == 4 && (bt280.2.1 == 3)) = true then (if bt280.2.2 = 0 then (some (bt287.2.2 == 7)) else (some false)) else (some false)) else (some false)) else (some false)))))) = some r := h
 clear h
 obtain ⟨y273, hy273⟩ : ∃ y_ : List (S41), y_ = (([(⟨1, 4, 4, ([] : List (S63))⟩ : S41)] : List (S41))) := ⟨_, rfl⟩
 replace H : ((face_Least.f y273 2).bind fun bt276 => ((face_Least.f y273 4).bind fun bt280 => ((face_Least.f (([(⟨4, 4, 4, ([] : List (S63))⟩ : S41), (⟨1, 4, 4, ([] : List (S63))⟩ : S41)] : List (S41))) 2).bind fun bt287 => (if (bt276.1 == 2 && (bt276.2.1 == 1)) = true then (if bt276.2.2 = 0 then (if (bt280.1 == 4 && (bt280.2.1 == 3)) = true then (if bt280.2.2 = 0 then (some (bt287.2.2 == 7)) else (some false)) else (some false)) else (some false)) else (some false))))) = some r := by first | (rw [hy273]; with_reducible exact H) | (have H2_ := (Option.bind_some _ _).symm.trans H; rw [hy273]; with_reducible exact H2_) | (have H2_ := (Option.bind_some _ _).symm.trans H; with_reducible exact H2_) | with_reducible exact H | (rw [hy273]; exact H) | exact H
 have Ny273 := Aside0.mk hy273
 clear hy273
 replace H := Option.bind_eq_some_iff.mp H
 obtain ⟨⟨t276, t277, t278⟩, A10, H⟩ := H
 replace H : ((face_Least.f y273 4).bind fun bt280 => ((face_Least.f (([(⟨4, 4, 4, ([] : List (S63))⟩ : S41), (⟨1, 4, 4, ([] : List (S63))⟩ : S41)] : List (S41))) 2).bind fun bt287 => (if (t276 == 2 && (t277 == 1)) = true then (if t278 = 0 then (if (bt280.1 == 4 && (bt280.2.1 == 3)) = true then (if bt280.2.2 = 0 then (some (bt287.2.2 == 7)) else (some false)) else (some false)) else (some false)) else (some false)))) = some r := H
 have A1 := Aside0.mk A10
 clear A10
 replace H := Option.bind_eq_some_iff.mp H
 obtain ⟨⟨t280, t281, t282⟩, A20, H⟩ := H
 replace H : ((face_Least.f (([(⟨4, 4, 4, ([] : List (S63))⟩ : S41), (⟨1, 4, 4, ([] : List (S63))⟩ : S41)] : List (S41))) 2).bind fun bt287 => (if (t276 == 2 && (t277 == 1)) = true then (if t278 = 0 then (if (t280 == 4 && (t281 == 3)) = true then (if t282 = 0 then (some (bt287.2.2 == 7)) else (some false)) else (some false)) else (some false)) else (some false))) = some r := H
 have A2 := Aside0.mk A20
 clear A20
 obtain ⟨y284, hy284⟩ : ∃ y_ : List (S41), y_ = (([(⟨4, 4, 4, ([] : List (S63))⟩ : S41), (⟨1, 4, 4, ([] : List (S63))⟩ : S41)] : List (S41))) := ⟨_, rfl⟩
 replace H : ((face_Least.f y284 2).bind fun bt287 => (if (t276 == 2 && (t277 == 1)) = true then (if t278 = 0 then (if (t280 == 4 && (t281 == 3)) = true then (if t282 = 0 then (some (bt287.2.2 == 7)) else (some false)) else (some false)) else (some false)) else (some false))) = some r := by first | (rw [hy284]; with_reducible exact H) | (have H2_ := (Option.bind_some _ _).symm.trans H; rw [hy284]; with_reducible exact H2_) | (have H2_ := (Option.bind_some _ _).symm.trans H; with_reducible exact H2_) | with_reducible exact H | (rw [hy284]; exact H) | exact H
 have Ny284 := Aside0.mk hy284
 clear hy284
 replace H := Option.bind_eq_some_iff.mp H
 obtain ⟨⟨t287, t288, t289⟩, A30, H⟩ := H
 replace H : (if (t276 == 2 && (t277 == 1)) = true then (if t278 = 0 then (if (t280 == 4 && (t281 == 3)) = true then (if t282 = 0 then (some (t289 == 7)) else (some false)) else (some false)) else (some false)) else (some false)) = some r := H
 have A3 := Aside0.mk A30
 clear A30
 by_cases c4 : (t276 == 2 && (t277 == 1)) = true
 ·rw [if_pos c4] at H
  have c4b0 : (t276 == 2 && (t277 == 1)) = true := c4
  (try (have c4b1 : decide (t276 = 2 && (t277 == 1)) = true := by simpa using c4))
  (try (have c4b2 : (t276 == 2 && (t277 == 1)) = true := by simpa using c4))
  clear c4
  by_cases c5 : t278 = 0
  ·rw [if_pos c5] at H
   have c5b0 : (t278 == 0) = true := beq_iff_eq.mpr c5
   have c5b1 : (t278 != 0) = false := bne_eq_false_iff_eq.mpr c5
   clear c5
   by_cases c6 : (t280 == 4 && (t281 == 3)) = true
   ·rw [if_pos c6] at H
    have c6b0 : (t280 == 4 && (t281 == 3)) = true := c6
    (try (have c6b1 : decide (t280 = 4 && (t281 == 3)) = true := by simpa using c6))
    (try (have c6b2 : (t280 == 4 && (t281 == 3)) = true := by simpa using c6))
    clear c6
    by_cases c7 : t282 = 0
    ·rw [if_pos c7] at H
     have c7b0 : (t282 == 0) = true := beq_iff_eq.mpr c7
     have c7b1 : (t282 != 0) = false := bne_eq_false_iff_eq.mpr c7
     clear c7
     obtain rfl := Option.some.inj H
     go_enter Try.func19, Try.ntmps19
     go_wp2_with (first | ((with_reducible refine gate_dst (N := 9) rfl ?_); refine Kd.S_lit k41 _ 41 ?hg (N := 9) ?hd (xs := ([(⟨1, 4, 4, ([] : List (S63))⟩ : S41)] : List (S41))) (inner := [.int .i64 1, .int .i64 4, .int .i64 4, .slice none 0 0]) (ok := fun _ => True) (okp := fun _ => True) ?hr ?hp (fun _ hk => hk) trivial (Below.refl _ _) (Nat.le_refl _) (by simp) ?_; (case hd => rfl); (case hg => rfl); (case hr => first | (go_simp; done) | (go_simp; rfl)); (case hp => exact (Reps.c4 (show Kd.M k41 _ _ _ (⟨1, 4, 4, ([] : List (S63))⟩ : S41) [.int .i64 1, .int .i64 4, .int .i64 4, .slice none 0 0] from (k41_mkM _ _ _ (⟨1, 4, 4, ([] : List (S63))⟩ : S41) (Kd.R_nil _ _ _ _ _))) (Reps.none _ _))); intro v274 w8 ho9 hb hg_ hnew_; clear hg_ hnew_; (first | rw [← Ny273.out] at ho9 | (simp only [Int.reduceToNat] at ho9; rw [← Ny273.out] at ho9)); have n0_ := Aside0.mk (Kd.S_lower ho9 (below_size (by repeat (first | (with_reducible first | exact HB.out | apply below_alloc | apply pw_below_drewN | apply below_drew1) | exact HB.out)))); have n1_ := Aside0.mk (below_step (by repeat (first | (with_reducible first | exact HB.out | apply below_alloc | apply pw_below_drewN | apply below_drew1) | exact HB.out)) hb); clear HB; have HO275 := n0_; have HB := n1_; clear n0_ n1_; clear hb ho9; obtain ⟨Ao10, co10, eo10⟩ := Kd.S_slice HO275.out; subst eo10) | ((with_reducible refine gate_callee (f := 20) rfl ?_); refine goesL_ (some 12) rfl rfl Try.func20 (by kernel_rfl) rfl #[.slice Ao10 y273.length co10, .int .i64 2] rfl (by (try simp only [List.map_toArray, List.map_cons, List.map_nil]); first | done | rfl | (simp only [List.length_drop, List.length_take]; rfl)) ?_; (with_reducible refine (face_Least.calls _ _ y273 2 t276 t277 t278 _ ?side1 ?side2 A1.out).mono ?_); (case side1 => repeat (first | exact (Kd.S_reads' HO275.out).2.2 | (with_reducible refine Kd.C_alloc ?_ _) | (with_reducible refine Kd.C_drewN ?_ _) | (with_reducible refine Kd.C_drew ?_))); (case side2 => exact (Kd.S_reads' HO275.out).2.1); rintro e w11 ⟨rfl, hb⟩; refine ⟨_, rfl, ?_⟩; have n0_ := Aside0.mk (Kd.S_below (by (with_reducible repeat (first | apply Kd.S_alloc | apply Kd.S_drewN | apply Kd.S_drew)); exact HO275.out) hb); have n1_ := Aside0.mk (below_step (by repeat (first | (with_reducible first | exact HB.out | apply below_alloc | apply pw_below_drewN | apply below_drew1) | exact HB.out)) hb); clear HO275; clear HB; have HO275 := n0_; have HB := n1_; clear n0_ n1_; (try clear hb); (try clear hb2); (try clear hk); (try clear hi)) | ((with_reducible refine gate_dst (N := 2) rfl ?_); refine box_event ?hg (N := 2) ?hd (cs := #[.int .i64 0, .int .i64 0]) (t := 24) ?hr ?_; (case hd => rfl); (case hg => rfl); (case hr => first | (go_simp; done) | (go_simp; rfl)); intro gb279 hg w12 hbox hb; have n0_ := Aside0.mk (Kd.S_below (by (with_reducible repeat (first | apply Kd.S_alloc | apply Kd.S_drewN | apply Kd.S_drew)); exact HO275.out) hb); have n1_ := Aside0.mk (below_step (by repeat (first | (with_reducible first | exact HB.out | apply below_alloc | apply pw_below_drewN | apply below_drew1) | exact HB.out)) hb); have n2_ := Aside0.mk (hbox); have n3_ := Aside0.mk ((by rw [hg]; exact (below_size (by repeat (first | (with_reducible first | exact HB.out | apply below_alloc | apply pw_below_drewN | apply below_drew1) | exact HB.out))) : w.heap.size ≤ gb279)); have n4_ := Aside0.mk ((by rw [hg]; exact (below_size (by repeat (first | (with_reducible first | exact HB.out | apply below_alloc | apply pw_below_drewN | apply below_drew1) | exact HB.out))) : w.heap.size ≤ gb279)); clear HO275; clear HB; have HO275 := n0_; have HB := n1_; have BK279 := n2_; have GW279 := n3_; have GE279 := n4_; clear n0_ n1_ n2_ n3_ n4_; clear hb hbox hg; have hcz13_0 : w12.cell? ⟨gb279, 0, none⟩ = some (.int .i64 0) := (blk_cell BK279.out 0).trans rfl; have hcz13_1 : w12.cell? ⟨gb279, 1, none⟩ = some (.int .i64 0) := (blk_cell BK279.out 1).trans rfl; have hfz13_0 := blk_frozen BK279.out 0; have hfz13_1 := blk_frozen BK279.out 1) | ((with_reducible refine gate_callee (f := 20) rfl ?_); refine goesL_ (some 17) rfl rfl Try.func20 (by kernel_rfl) rfl #[.slice Ao10 y273.length co10, .int .i64 4] rfl (by (try simp only [List.map_toArray, List.map_cons, List.map_nil]); first | done | rfl | (simp only [List.length_drop, List.length_take]; rfl)) ?_; (with_reducible refine (face_Least.calls _ _ y273 4 t280 t281 t282 _ ?side1 ?side2 A2.out).mono ?_); (case side1 => refine (Kd.S_reads' (e := 41) (base := w.heap.size) (ok := fun k_ => True) (n := y273.length) (c := co10) ?_).2.2; exact (by (with_reducible repeat (first | apply Kd.S_alloc | apply Kd.S_drewN | apply Kd.S_drew)); exact (Kd.S_mono (Kd.S_far (p := ⟨gb279, 1, none⟩) (Kd.S_far (p := ⟨gb279, 0, none⟩) (Kd.S_types HO275.out BK279.out (by decide)) (fun _ hk => hk.2) (.int .i64 t276)) (fun _ hk => hk.2) (.int .i64 t277)) (fun _ h_ => h_.1)))); (case side2 => exact (Kd.S_reads' HO275.out).2.1); rintro e w14 ⟨rfl, hb⟩; refine ⟨_, rfl, ?_⟩; have n0_ := Aside0.mk (Kd.S_below (by (with_reducible repeat (first | apply Kd.S_alloc | apply Kd.S_drewN | apply Kd.S_drew)); exact (Kd.S_mono (Kd.S_far (p := ⟨gb279, 1, none⟩) (Kd.S_far (p := ⟨gb279, 0, none⟩) (Kd.S_types HO275.out BK279.out (by decide)) (fun _ hk => hk.2) (.int .i64 t276)) (fun _ hk => hk.2) (.int .i64 t277)) (fun _ h_ => h_.1))) hb); have n1_ := Aside0.mk (blk_below (g := gb279) (o := .cells #[.int .i64 t276, .int .i64 t277] 24 (0, 0)) (by (with_reducible repeat (first | refine blk_drewN ?_ _ | refine blk_drew ?_ | refine blk_alloc ?_ _)); refine blk_put (cs := #[.int .i64 t276, .int .i64 0]) ?_ 1 _ rfl; (with_reducible repeat (first | refine blk_drewN ?_ _ | refine blk_drew ?_ | refine blk_alloc ?_ _)); refine blk_put (cs := #[.int .i64 0, .int .i64 0]) ?_ 0 _ rfl; (with_reducible repeat (first | refine blk_drewN ?_ _ | refine blk_drew ?_ | refine blk_alloc ?_ _)); exact BK279.out) hb); have n2_ := Aside0.mk (below_step (by repeat (first | (with_reducible first | exact HB.out | apply below_alloc | apply pw_below_drewN | apply below_drew1 | refine below_set ?_ GE279.out) | exact HB.out)) hb); clear HO275; clear BK279; clear HB; have HO275 := n0_; have BK279 := n1_; have HB := n2_; clear n0_ n1_ n2_; (try clear hb); (try clear hb2); (try clear hk); (try clear hi)) | ((with_reducible refine gate_dst (N := 4) rfl ?_); refine box_event ?hg (N := 4) ?hd (cs := #[.int .i64 0, .int .i64 0]) (t := 24) ?hr ?_; (case hd => rfl); (case hg => rfl); (case hr => first | (go_simp; done) | (go_simp; rfl)); intro gb283 hg w15 hbox hb; have n0_ := Aside0.mk (Kd.S_below (by (with_reducible repeat (first | apply Kd.S_alloc | apply Kd.S_drewN | apply Kd.S_drew)); exact HO275.out) hb); have n1_ := Aside0.mk (blk_below (g := gb279) (o := .cells #[.int .i64 t276, .int .i64 t277] 24 (0, 0)) (by (with_reducible repeat (first | refine blk_drewN ?_ _ | refine blk_drew ?_ | refine blk_alloc ?_ _)); exact BK279.out) hb); have n2_ := Aside0.mk (below_step (by repeat (first | (with_reducible first | exact HB.out | apply below_alloc | apply pw_below_drewN | apply below_drew1 | refine below_set ?_ GE279.out) | exact HB.out)) hb); have n3_ := Aside0.mk (hbox); have n4_ := Aside0.mk ((by rw [hg]; exact (below_size (by repeat (first | (with_reducible first | exact HB.out | apply below_alloc | apply pw_below_drewN | apply below_drew1 | refine below_set ?_ GE279.out) | exact HB.out))) : w.heap.size ≤ gb283)); have n5_ := Aside0.mk ((by rw [hg]; exact (below_size (by repeat (first | (with_reducible first | exact HB.out | apply below_alloc | apply pw_below_drewN | apply below_drew1 | refine below_set ?_ GE279.out) | exact HB.out))) : w.heap.size ≤ gb283)); have n6_ := Aside0.mk ((by rw [hg]; exact Nat.ne_of_lt (blk_lt (g := gb279) (o := .cells #[.int .i64 t276, .int .i64 t277] 24 (0, 0)) (by (with_reducible repeat (first | refine blk_drewN ?_ _ | refine blk_drew ?_ | refine blk_alloc ?_ _)); exact BK279.out)) : gb279 ≠ gb283)); have n7_ := Aside0.mk ((by rw [hg]; exact Nat.ne_of_gt (blk_lt (g := gb279) (o := .cells #[.int .i64 t276, .int .i64 t277] 24 (0, 0)) (by (with_reducible repeat (first | refine blk_drewN ?_ _ | refine blk_drew ?_ | refine blk_alloc ?_ _)); exact BK279.out)) : gb283 ≠ gb279)); clear HO275; clear BK279; clear HB; have HO275 := n0_; have BK279 := n1_; have HB := n2_; have BK283 := n3_; have GW283 := n4_; have GE283 := n5_; have NB279_283 := n6_; have NB283_279 := n7_; clear n0_ n1_ n2_ n3_ n4_ n5_ n6_ n7_; clear hb hbox hg; have hnb16 := NB283_279.out; have hnc16 := NB279_283.out; have hcz17_0 : w15.cell? ⟨gb283, 0, none⟩ = some (.int .i64 0) := (blk_cell BK283.out 0).trans rfl; have hcz17_1 : w15.cell? ⟨gb283, 1, none⟩ = some (.int .i64 0) := (blk_cell BK283.out 1).trans rfl; have hfz17_0 := blk_frozen BK283.out 0; have hfz17_1 := blk_frozen BK283.out 1) | ((with_reducible refine gate_dst (N := 23) rfl ?_); refine Kd.S_lit k41 _ 41 ?hg (N := 23) ?hd (xs := ([(⟨4, 4, 4, ([] : List (S63))⟩ : S41), (⟨1, 4, 4, ([] : List (S63))⟩ : S41)] : List (S41))) (inner := [.int .i64 4, .int .i64 4, .int .i64 4, .slice none 0 0, .int .i64 1, .int .i64 4, .int .i64 4, .slice none 0 0]) (ok := fun _ => True) (okp := fun _ => True) ?hr ?hp (fun _ hk => hk) trivial (Below.refl _ _) (Nat.le_refl _) (by simp) ?_; (case hd => rfl); (case hg => rfl); (case hr => first | (go_simp; done) | (go_simp; rfl)); (case hp => exact (Reps.c4 (show Kd.M k41 _ _ _ (⟨4, 4, 4, ([] : List (S63))⟩ : S41) [.int .i64 4, .int .i64 4, .int .i64 4, .slice none 0 0] from (k41_mkM _ _ _ (⟨4, 4, 4, ([] : List (S63))⟩ : S41) (Kd.R_nil _ _ _ _ _))) (Reps.c4 (show Kd.M k41 _ _ _ (⟨1, 4, 4, ([] : List (S63))⟩ : S41) [.int .i64 1, .int .i64 4, .int .i64 4, .slice none 0 0] from (k41_mkM _ _ _ (⟨1, 4, 4, ([] : List (S63))⟩ : S41) (Kd.R_nil _ _ _ _ _))) (Reps.none _ _)))); intro v285 w18 ho19 hb hg_ hnew_; clear hg_ hnew_; (first | rw [← Ny284.out] at ho19 | (simp only [Int.reduceToNat] at ho19; rw [← Ny284.out] at ho19)); have n0_ := Aside0.mk (Kd.S_elder' (by (with_reducible repeat (first | apply Kd.S_alloc | apply Kd.S_drewN | apply Kd.S_drew)); exact (Kd.S_mono (Kd.S_far (p := ⟨gb283, 1, none⟩) (Kd.S_far (p := ⟨gb283, 0, none⟩) (Kd.S_types HO275.out BK283.out (by decide)) (fun _ hk => hk.2) (.int .i64 t280)) (fun _ hk => hk.2) (.int .i64 t281)) (fun _ h_ => h_.1))) (Kd.S_base ho19) hb); have n1_ := Aside0.mk (Kd.S_lower (Kd.S_new' ho19 (Kd.S_lt (by (with_reducible repeat (first | apply Kd.S_alloc | apply Kd.S_drewN | apply Kd.S_drew)); exact (Kd.S_mono (Kd.S_far (p := ⟨gb283, 1, none⟩) (Kd.S_far (p := ⟨gb283, 0, none⟩) (Kd.S_types HO275.out BK283.out (by decide)) (fun _ hk => hk.2) (.int .i64 t280)) (fun _ hk => hk.2) (.int .i64 t281)) (fun _ h_ => h_.1))))) (below_size (by repeat (first | (with_reducible first | exact HB.out | apply below_alloc | apply pw_below_drewN | apply below_drew1 | refine below_set ?_ GE279.out | refine below_set ?_ GE283.out) | exact HB.out)))); have n2_ := Aside0.mk (blk_below (g := gb279) (o := .cells #[.int .i64 t276, .int .i64 t277] 24 (0, 0)) (by (with_reducible repeat (first | refine blk_drewN ?_ _ | refine blk_drew ?_ | refine blk_alloc ?_ _)); refine blk_far ?_ NB279_283.out _; (with_reducible repeat (first | refine blk_drewN ?_ _ | refine blk_drew ?_ | refine blk_alloc ?_ _)); refine blk_far ?_ NB279_283.out _; (with_reducible repeat (first | refine blk_drewN ?_ _ | refine blk_drew ?_ | refine blk_alloc ?_ _)); exact BK279.out) hb); have n3_ := Aside0.mk (blk_below (g := gb283) (o := .cells #[.int .i64 t280, .int .i64 t281] 24 (0, 0)) (by (with_reducible repeat (first | refine blk_drewN ?_ _ | refine blk_drew ?_ | refine blk_alloc ?_ _)); refine blk_put (cs := #[.int .i64 t280, .int .i64 0]) ?_ 1 _ rfl; (with_reducible repeat (first | refine blk_drewN ?_ _ | refine blk_drew ?_ | refine blk_alloc ?_ _)); refine blk_put (cs := #[.int .i64 0, .int .i64 0]) ?_ 0 _ rfl; (with_reducible repeat (first | refine blk_drewN ?_ _ | refine blk_drew ?_ | refine blk_alloc ?_ _)); exact BK283.out) hb); have n4_ := Aside0.mk (below_step (by repeat (first | (with_reducible first | exact HB.out | apply below_alloc | apply pw_below_drewN | apply below_drew1 | refine below_set ?_ GE279.out | refine below_set ?_ GE283.out) | exact HB.out)) hb); clear HO275; clear BK279; clear BK283; clear HB; have HO275 := n0_; have HO286 := n1_; have BK279 := n2_; have BK283 := n3_; have HB := n4_; clear n0_ n1_ n2_ n3_ n4_; clear hb ho19; obtain ⟨Ao20, co20, eo20⟩ := Kd.S_slice HO286.out; subst eo20) | ((with_reducible refine gate_callee (f := 20) rfl ?_); refine goesL_ (some 24) rfl rfl Try.func20 (by kernel_rfl) rfl #[.slice Ao20 y284.length co20, .int .i64 2] rfl (by (try simp only [List.map_toArray, List.map_cons, List.map_nil]); first | done | rfl | (simp only [List.length_drop, List.length_take]; rfl)) ?_; (with_reducible refine (face_Least.calls _ _ y284 2 t287 t288 t289 _ ?side1 ?side2 A3.out).mono ?_); (case side1 => repeat (first | exact (Kd.S_reads' HO286.out).2.2 | (with_reducible refine Kd.C_alloc ?_ _) | (with_reducible refine Kd.C_drewN ?_ _) | (with_reducible refine Kd.C_drew ?_))); (case side2 => exact (Kd.S_reads' HO286.out).2.1); rintro e w21 ⟨rfl, hb⟩; refine ⟨_, rfl, ?_⟩; have n0_ := Aside0.mk (Kd.S_below (by (with_reducible repeat (first | apply Kd.S_alloc | apply Kd.S_drewN | apply Kd.S_drew)); exact HO275.out) hb); have n1_ := Aside0.mk (Kd.S_below (by (with_reducible repeat (first | apply Kd.S_alloc | apply Kd.S_drewN | apply Kd.S_drew)); exact HO286.out) hb); have n2_ := Aside0.mk (blk_below (g := gb279) (o := .cells #[.int .i64 t276, .int .i64 t277] 24 (0, 0)) (by (with_reducible repeat (first | refine blk_drewN ?_ _ | refine blk_drew ?_ | refine blk_alloc ?_ _)); exact BK279.out) hb); have n3_ := Aside0.mk (blk_below (g := gb283) (o := .cells #[.int .i64 t280, .int .i64 t281] 24 (0, 0)) (by (with_reducible repeat (first | refine blk_drewN ?_ _ | refine blk_drew ?_ | refine blk_alloc ?_ _)); exact BK283.out) hb); have n4_ := Aside0.mk (below_step (by repeat (first | (with_reducible first | exact HB.out | apply below_alloc | apply pw_below_drewN | apply below_drew1 | refine below_set ?_ GE279.out | refine below_set ?_ GE283.out) | exact HB.out)) hb); clear HO275; clear HO286; clear BK279; clear BK283; clear HB; have HO275 := n0_; have HO286 := n1_; have BK279 := n2_; have BK283 := n3_; have HB := n4_; clear n0_ n1_ n2_ n3_ n4_; (try clear hb); (try clear hb2); (try clear hk); (try clear hi)) | ((with_reducible refine gate_dst (N := 6) rfl ?_); refine box_event ?hg (N := 6) ?hd (cs := #[.int .i64 0, .int .i64 0]) (t := 24) ?hr ?_; (case hd => rfl); (case hg => rfl); (case hr => first | (go_simp; done) | (go_simp; rfl)); intro gb290 hg w22 hbox hb; have n0_ := Aside0.mk (Kd.S_below (by (with_reducible repeat (first | apply Kd.S_alloc | apply Kd.S_drewN | apply Kd.S_drew)); exact HO275.out) hb); have n1_ := Aside0.mk (Kd.S_below (by (with_reducible repeat (first | apply Kd.S_alloc | apply Kd.S_drewN | apply Kd.S_drew)); exact HO286.out) hb); have n2_ := Aside0.mk (blk_below (g := gb279) (o := .cells #[.int .i64 t276, .int .i64 t277] 24 (0, 0)) (by (with_reducible repeat (first | refine blk_drewN ?_ _ | refine blk_drew ?_ | refine blk_alloc ?_ _)); exact BK279.out) hb); have n3_ := Aside0.mk (blk_below (g := gb283) (o := .cells #[.int .i64 t280, .int .i64 t281] 24 (0, 0)) (by (with_reducible repeat (first | refine blk_drewN ?_ _ | refine blk_drew ?_ | refine blk_alloc ?_ _)); exact BK283.out) hb); have n4_ := Aside0.mk (below_step (by repeat (first | (with_reducible first | exact HB.out | apply below_alloc | apply pw_below_drewN | apply below_drew1 | refine below_set ?_ GE279.out | refine below_set ?_ GE283.out) | exact HB.out)) hb); have n5_ := Aside0.mk (hbox); have n6_ := Aside0.mk ((by rw [hg]; exact (below_size (by repeat (first | (with_reducible first | exact HB.out | apply below_alloc | apply pw_below_drewN | apply below_drew1 | refine below_set ?_ GE279.out | refine below_set ?_ GE283.out) | exact HB.out))) : w.heap.size ≤ gb290)); have n7_ := Aside0.mk ((by rw [hg]; exact (below_size (by repeat (first | (with_reducible first | exact HB.out | apply below_alloc | apply pw_below_drewN | apply below_drew1 | refine below_set ?_ GE279.out | refine below_set ?_ GE283.out) | exact HB.out))) : w.heap.size ≤ gb290)); have n8_ := Aside0.mk ((by rw [hg]; exact Nat.ne_of_lt (blk_lt (g := gb279) (o := .cells #[.int .i64 t276, .int .i64 t277] 24 (0, 0)) (by (with_reducible repeat (first | refine blk_drewN ?_ _ | refine blk_drew ?_ | refine blk_alloc ?_ _)); exact BK279.out)) : gb279 ≠ gb290)); have n9_ := Aside0.mk ((by rw [hg]; exact Nat.ne_of_gt (blk_lt (g := gb279) (o := .cells #[.int .i64 t276, .int .i64 t277] 24 (0, 0)) (by (with_reducible repeat (first | refine blk_drewN ?_ _ | refine blk_drew ?_ | refine blk_alloc ?_ _)); exact BK279.out)) : gb290 ≠ gb279)); have n10_ := Aside0.mk ((by rw [hg]; exact Nat.ne_of_lt (blk_lt (g := gb283) (o := .cells #[.int .i64 t280, .int .i64 t281] 24 (0, 0)) (by (with_reducible repeat (first | refine blk_drewN ?_ _ | refine blk_drew ?_ | refine blk_alloc ?_ _)); exact BK283.out)) : gb283 ≠ gb290)); have n11_ := Aside0.mk ((by rw [hg]; exact Nat.ne_of_gt (blk_lt (g := gb283) (o := .cells #[.int .i64 t280, .int .i64 t281] 24 (0, 0)) (by (with_reducible repeat (first | refine blk_drewN ?_ _ | refine blk_drew ?_ | refine blk_alloc ?_ _)); exact BK283.out)) : gb290 ≠ gb283)); clear HO275; clear HO286; clear BK279; clear BK283; clear HB; have HO275 := n0_; have HO286 := n1_; have BK279 := n2_; have BK283 := n3_; have HB := n4_; have BK290 := n5_; have GW290 := n6_; have GE290 := n7_; have NB279_290 := n8_; have NB290_279 := n9_; have NB283_290 := n10_; have NB290_283 := n11_; clear n0_ n1_ n2_ n3_ n4_ n5_ n6_ n7_ n8_ n9_ n10_ n11_; clear hb hbox hg; have hnb23 := NB290_279.out; have hnc23 := NB279_290.out; have hnb24 := NB290_283.out; have hnc24 := NB283_290.out; have hcz25_0 : w22.cell? ⟨gb290, 0, none⟩ = some (.int .i64 0) := (blk_cell BK290.out 0).trans rfl; have hcz25_1 : w22.cell? ⟨gb290, 1, none⟩ = some (.int .i64 0) := (blk_cell BK290.out 1).trans rfl; have hfz25_0 := blk_frozen BK290.out 0; have hfz25_1 := blk_frozen BK290.out 1; have hcz26_0 : w22.cell? ⟨gb279, 0, none⟩ = some (.int .i64 t276) := (blk_cell BK279.out 0).trans rfl; have hcz26_1 : w22.cell? ⟨gb279, 1, none⟩ = some (.int .i64 t277) := (blk_cell BK279.out 1).trans rfl; have hfz26_0 := blk_frozen BK279.out 0; have hfz26_1 := blk_frozen BK279.out 1; have hcz27_0 : w22.cell? ⟨gb283, 0, none⟩ = some (.int .i64 t280) := (blk_cell BK283.out 0).trans rfl; have hcz27_1 : w22.cell? ⟨gb283, 1, none⟩ = some (.int .i64 t281) := (blk_cell BK283.out 1).trans rfl; have hfz27_0 := blk_frozen BK283.out 0; have hfz27_1 := blk_frozen BK283.out 1))
     go_ret
     exact ⟨by first | rfl | (simp [errW_none, errW_some] <;> rfl) | (simp [*, errW_none, errW_some] <;> rfl), by repeat (first | (with_reducible first | exact HB.out | apply below_alloc | apply pw_below_drewN | apply below_drew1 | refine below_set ?_ GE279.out | refine below_set ?_ GE283.out | refine below_set ?_ GE290.out) | exact HB.out)⟩
    ·rw [if_neg c7] at H
     have c7b0 : (t282 == 0) = false := beq_eq_false_iff_ne.mpr c7
     have c7b1 : (t282 != 0) = true := bne_iff_ne.mpr c7
     obtain rfl := Option.some.inj H
     go_enter Try.func19, Try.ntmps19
     go_wp2_with (first | ((with_reducible refine gate_dst (N := 9) rfl ?_); refine Kd.S_lit k41 _ 41 ?hg (N := 9) ?hd (xs := ([(⟨1, 4, 4, ([] : List (S63))⟩ : S41)] : List (S41))) (inner := [.int .i64 1, .int .i64 4, .int .i64 4, .slice none 0 0]) (ok := fun _ => True) (okp := fun _ => True) ?hr ?hp (fun _ hk => hk) trivial (Below.refl _ _) (Nat.le_refl _) (by simp) ?_; (case hd => rfl); (case hg => rfl); (case hr => first | (go_simp; done) | (go_simp; rfl)); (case hp => exact (Reps.c4 (show Kd.M k41 _ _ _ (⟨1, 4, 4, ([] : List (S63))⟩ : S41) [.int .i64 1, .int .i64 4, .int .i64 4, .slice none 0 0] from (k41_mkM _ _ _ (⟨1, 4, 4, ([] : List (S63))⟩ : S41) (Kd.R_nil _ _ _ _ _))) (Reps.none _ _))); intro v274 w28 ho29 hb hg_ hnew_; clear hg_ hnew_; (first | rw [← Ny273.out] at ho29 | (simp only [Int.reduceToNat] at ho29; rw [← Ny273.out] at ho29)); have n0_ := Aside0.mk (Kd.S_lower ho29 (below_size (by repeat (first | (with_reducible first | exact HB.out | apply below_alloc | apply pw_below_drewN | apply below_drew1) | exact HB.out)))); have n1_ := Aside0.mk (below_step (by repeat (first | (with_reducible first | exact HB.out | apply below_alloc | apply pw_below_drewN | apply below_drew1) | exact HB.out)) hb); clear HB; have HO275 := n0_; have HB := n1_; clear n0_ n1_; clear hb ho29; obtain ⟨Ao30, co30, eo30⟩ := Kd.S_slice HO275.out; subst eo30) | ((with_reducible refine gate_callee (f := 20) rfl ?_); refine goesL_ (some 12) rfl rfl Try.func20 (by kernel_rfl) rfl #[.slice Ao30 y273.length co30, .int .i64 2] rfl (by (try simp only [List.map_toArray, List.map_cons, List.map_nil]); first | done | rfl | (simp only [List.length_drop, List.length_take]; rfl)) ?_; (with_reducible refine (face_Least.calls _ _ y273 2 t276 t277 t278 _ ?side1 ?side2 A1.out).mono ?_); (case side1 => repeat (first | exact (Kd.S_reads' HO275.out).2.2 | (with_reducible refine Kd.C_alloc ?_ _) | (with_reducible refine Kd.C_drewN ?_ _) | (with_reducible refine Kd.C_drew ?_))); (case side2 => exact (Kd.S_reads' HO275.out).2.1); rintro e w31 ⟨rfl, hb⟩; refine ⟨_, rfl, ?_⟩; have n0_ := Aside0.mk (Kd.S_below (by (with_reducible repeat (first | apply Kd.S_alloc | apply Kd.S_drewN | apply Kd.S_drew)); exact HO275.out) hb); have n1_ := Aside0.mk (below_step (by repeat (first | (with_reducible first | exact HB.out | apply below_alloc | apply pw_below_drewN | apply below_drew1) | exact HB.out)) hb); clear HO275; clear HB; have HO275 := n0_; have HB := n1_; clear n0_ n1_; (try clear hb); (try clear hb2); (try clear hk); (try clear hi)) | ((with_reducible refine gate_dst (N := 2) rfl ?_); refine box_event ?hg (N := 2) ?hd (cs := #[.int .i64 0, .int .i64 0]) (t := 24) ?hr ?_; (case hd => rfl); (case hg => rfl); (case hr => first | (go_simp; done) | (go_simp; rfl)); intro gb279 hg w32 hbox hb; have n0_ := Aside0.mk (Kd.S_below (by (with_reducible repeat (first | apply Kd.S_alloc | apply Kd.S_drewN | apply Kd.S_drew)); exact HO275.out) hb); have n1_ := Aside0.mk (below_step (by repeat (first | (with_reducible first | exact HB.out | apply below_alloc | apply pw_below_drewN | apply below_drew1) | exact HB.out)) hb); have n2_ := Aside0.mk (hbox); have n3_ := Aside0.mk ((by rw [hg]; exact (below_size (by repeat (first | (with_reducible first | exact HB.out | apply below_alloc | apply pw_below_drewN | apply below_drew1) | exact HB.out))) : w.heap.size ≤ gb279)); have n4_ := Aside0.mk ((by rw [hg]; exact (below_size (by repeat (first | (with_reducible first | exact HB.out | apply below_alloc | apply pw_below_drewN | apply below_drew1) | exact HB.out))) : w.heap.size ≤ gb279)); clear HO275; clear HB; have HO275 := n0_; have HB := n1_; have BK279 := n2_; have GW279 := n3_; have GE279 := n4_; clear n0_ n1_ n2_ n3_ n4_; clear hb hbox hg; have hcz33_0 : w32.cell? ⟨gb279, 0, none⟩ = some (.int .i64 0) := (blk_cell BK279.out 0).trans rfl; have hcz33_1 : w32.cell? ⟨gb279, 1, none⟩ = some (.int .i64 0) := (blk_cell BK279.out 1).trans rfl; have hfz33_0 := blk_frozen BK279.out 0; have hfz33_1 := blk_frozen BK279.out 1) | ((with_reducible refine gate_callee (f := 20) rfl ?_); refine goesL_ (some 17) rfl rfl Try.func20 (by kernel_rfl) rfl #[.slice Ao30 y273.length co30, .int .i64 4] rfl (by (try simp only [List.map_toArray, List.map_cons, List.map_nil]); first | done | rfl | (simp only [List.length_drop, List.length_take]; rfl)) ?_; (with_reducible refine (face_Least.calls _ _ y273 4 t280 t281 t282 _ ?side1 ?side2 A2.out).mono ?_); (case side1 => refine (Kd.S_reads' (e := 41) (base := w.heap.size) (ok := fun k_ => True) (n := y273.length) (c := co30) ?_).2.2; exact (by (with_reducible repeat (first | apply Kd.S_alloc | apply Kd.S_drewN | apply Kd.S_drew)); exact (Kd.S_mono (Kd.S_far (p := ⟨gb279, 1, none⟩) (Kd.S_far (p := ⟨gb279, 0, none⟩) (Kd.S_types HO275.out BK279.out (by decide)) (fun _ hk => hk.2) (.int .i64 t276)) (fun _ hk => hk.2) (.int .i64 t277)) (fun _ h_ => h_.1)))); (case side2 => exact (Kd.S_reads' HO275.out).2.1); rintro e w34 ⟨rfl, hb⟩; refine ⟨_, rfl, ?_⟩; have n0_ := Aside0.mk (Kd.S_below (by (with_reducible repeat (first | apply Kd.S_alloc | apply Kd.S_drewN | apply Kd.S_drew)); exact (Kd.S_mono (Kd.S_far (p := ⟨gb279, 1, none⟩) (Kd.S_far (p := ⟨gb279, 0, none⟩) (Kd.S_types HO275.out BK279.out (by decide)) (fun _ hk => hk.2) (.int .i64 t276)) (fun _ hk => hk.2) (.int .i64 t277)) (fun _ h_ => h_.1))) hb); have n1_ := Aside0.mk (blk_below (g := gb279) (o := .cells #[.int .i64 t276, .int .i64 t277] 24 (0, 0)) (by (with_reducible repeat (first | refine blk_drewN ?_ _ | refine blk_drew ?_ | refine blk_alloc ?_ _)); refine blk_put (cs := #[.int .i64 t276, .int .i64 0]) ?_ 1 _ rfl; (with_reducible repeat (first | refine blk_drewN ?_ _ | refine blk_drew ?_ | refine blk_alloc ?_ _)); refine blk_put (cs := #[.int .i64 0, .int .i64 0]) ?_ 0 _ rfl; (with_reducible repeat (first | refine blk_drewN ?_ _ | refine blk_drew ?_ | refine blk_alloc ?_ _)); exact BK279.out) hb); have n2_ := Aside0.mk (below_step (by repeat (first | (with_reducible first | exact HB.out | apply below_alloc | apply pw_below_drewN | apply below_drew1 | refine below_set ?_ GE279.out) | exact HB.out)) hb); clear HO275; clear BK279; clear HB; have HO275 := n0_; have BK279 := n1_; have HB := n2_; clear n0_ n1_ n2_; (try clear hb); (try clear hb2); (try clear hk); (try clear hi)) | ((with_reducible refine gate_dst (N := 4) rfl ?_); refine box_event ?hg (N := 4) ?hd (cs := #[.int .i64 0, .int .i64 0]) (t := 24) ?hr ?_; (case hd => rfl); (case hg => rfl); (case hr => first | (go_simp; done) | (go_simp; rfl)); intro gb283 hg w35 hbox hb; have n0_ := Aside0.mk (Kd.S_below (by (with_reducible repeat (first | apply Kd.S_alloc | apply Kd.S_drewN | apply Kd.S_drew)); exact HO275.out) hb); have n1_ := Aside0.mk (blk_below (g := gb279) (o := .cells #[.int .i64 t276, .int .i64 t277] 24 (0, 0)) (by (with_reducible repeat (first | refine blk_drewN ?_ _ | refine blk_drew ?_ | refine blk_alloc ?_ _)); exact BK279.out) hb); have n2_ := Aside0.mk (below_step (by repeat (first | (with_reducible first | exact HB.out | apply below_alloc | apply pw_below_drewN | apply below_drew1 | refine below_set ?_ GE279.out) | exact HB.out)) hb); have n3_ := Aside0.mk (hbox); have n4_ := Aside0.mk ((by rw [hg]; exact (below_size (by repeat (first | (with_reducible first | exact HB.out | apply below_alloc | apply pw_below_drewN | apply below_drew1 | refine below_set ?_ GE279.out) | exact HB.out))) : w.heap.size ≤ gb283)); have n5_ := Aside0.mk ((by rw [hg]; exact (below_size (by repeat (first | (with_reducible first | exact HB.out | apply below_alloc | apply pw_below_drewN | apply below_drew1 | refine below_set ?_ GE279.out) | exact HB.out))) : w.heap.size ≤ gb283)); have n6_ := Aside0.mk ((by rw [hg]; exact Nat.ne_of_lt (blk_lt (g := gb279) (o := .cells #[.int .i64 t276, .int .i64 t277] 24 (0, 0)) (by (with_reducible repeat (first | refine blk_drewN ?_ _ | refine blk_drew ?_ | refine blk_alloc ?_ _)); exact BK279.out)) : gb279 ≠ gb283)); have n7_ := Aside0.mk ((by rw [hg]; exact Nat.ne_of_gt (blk_lt (g := gb279) (o := .cells #[.int .i64 t276, .int .i64 t277] 24 (0, 0)) (by (with_reducible repeat (first | refine blk_drewN ?_ _ | refine blk_drew ?_ | refine blk_alloc ?_ _)); exact BK279.out)) : gb283 ≠ gb279)); clear HO275; clear BK279; clear HB; have HO275 := n0_; have BK279 := n1_; have HB := n2_; have BK283 := n3_; have GW283 := n4_; have GE283 := n5_; have NB279_283 := n6_; have NB283_279 := n7_; clear n0_ n1_ n2_ n3_ n4_ n5_ n6_ n7_; clear hb hbox hg; have hnb36 := NB283_279.out; have hnc36 := NB279_283.out; have hcz37_0 : w35.cell? ⟨gb283, 0, none⟩ = some (.int .i64 0) := (blk_cell BK283.out 0).trans rfl; have hcz37_1 : w35.cell? ⟨gb283, 1, none⟩ = some (.int .i64 0) := (blk_cell BK283.out 1).trans rfl; have hfz37_0 := blk_frozen BK283.out 0; have hfz37_1 := blk_frozen BK283.out 1) | ((with_reducible refine gate_dst (N := 23) rfl ?_); refine Kd.S_lit k41 _ 41 ?hg (N := 23) ?hd (xs := ([(⟨4, 4, 4, ([] : List (S63))⟩ : S41), (⟨1, 4, 4, ([] : List (S63))⟩ : S41)] : List (S41))) (inner := [.int .i64 4, .int .i64 4, .int .i64 4, .slice none 0 0, .int .i64 1, .int .i64 4, .int .i64 4, .slice none 0 0]) (ok := fun _ => True) (okp := fun _ => True) ?hr ?hp (fun _ hk => hk) trivial (Below.refl _ _) (Nat.le_refl _) (by simp) ?_; (case hd => rfl); (case hg => rfl); (case hr => first | (go_simp; done) | (go_simp; rfl)); (case hp => exact (Reps.c4 (show Kd.M k41 _ _ _ (⟨4, 4, 4, ([] : List (S63))⟩ : S41) [.int .i64 4, .int .i64 4, .int .i64 4, .slice none 0 0] from (k41_mkM _ _ _ (⟨4, 4, 4, ([] : List (S63))⟩ : S41) (Kd.R_nil _ _ _ _ _))) (Reps.c4 (show Kd.M k41 _ _ _ (⟨1, 4, 4, ([] : List (S63))⟩ : S41) [.int .i64 1, .int .i64 4, .int .i64 4, .slice none 0 0] from (k41_mkM _ _ _ (⟨1, 4, 4, ([] : List (S63))⟩ : S41) (Kd.R_nil _ _ _ _ _))) (Reps.none _ _)))); intro v285 w38 ho39 hb hg_ hnew_; clear hg_ hnew_; (first | rw [← Ny284.out] at ho39 | (simp only [Int.reduceToNat] at ho39; rw [← Ny284.out] at ho39)); have n0_ := Aside0.mk (Kd.S_elder' (by (with_reducible repeat (first | apply Kd.S_alloc | apply Kd.S_drewN | apply Kd.S_drew)); exact (Kd.S_mono (Kd.S_far (p := ⟨gb283, 1, none⟩) (Kd.S_far (p := ⟨gb283, 0, none⟩) (Kd.S_types HO275.out BK283.out (by decide)) (fun _ hk => hk.2) (.int .i64 t280)) (fun _ hk => hk.2) (.int .i64 t281)) (fun _ h_ => h_.1))) (Kd.S_base ho39) hb); have n1_ := Aside0.mk (Kd.S_lower (Kd.S_new' ho39 (Kd.S_lt (by (with_reducible repeat (first | apply Kd.S_alloc | apply Kd.S_drewN | apply Kd.S_drew)); exact (Kd.S_mono (Kd.S_far (p := ⟨gb283, 1, none⟩) (Kd.S_far (p := ⟨gb283, 0, none⟩) (Kd.S_types HO275.out BK283.out (by decide)) (fun _ hk => hk.2) (.int .i64 t280)) (fun _ hk => hk.2) (.int .i64 t281)) (fun _ h_ => h_.1))))) (below_size (by repeat (first | (with_reducible first | exact HB.out | apply below_alloc | apply pw_below_drewN | apply below_drew1 | refine below_set ?_ GE279.out | refine below_set ?_ GE283.out) | exact HB.out)))); have n2_ := Aside0.mk (blk_below (g := gb279) (o := .cells #[.int .i64 t276, .int .i64 t277] 24 (0, 0)) (by (with_reducible repeat (first | refine blk_drewN ?_ _ | refine blk_drew ?_ | refine blk_alloc ?_ _)); refine blk_far ?_ NB279_283.out _; (with_reducible repeat (first | refine blk_drewN ?_ _ | refine blk_drew ?_ | refine blk_alloc ?_ _)); refine blk_far ?_ NB279_283.out _; (with_reducible repeat (first | refine blk_drewN ?_ _ | refine blk_drew ?_ | refine blk_alloc ?_ _)); exact BK279.out) hb); have n3_ := Aside0.mk (blk_below (g := gb283) (o := .cells #[.int .i64 t280, .int .i64 t281] 24 (0, 0)) (by (with_reducible repeat (first | refine blk_drewN ?_ _ | refine blk_drew ?_ | refine blk_alloc ?_ _)); refine blk_put (cs := #[.int .i64 t280, .int .i64 0]) ?_ 1 _ rfl; (with_reducible repeat (first | refine blk_drewN ?_ _ | refine blk_drew ?_ | refine blk_alloc ?_ _)); refine blk_put (cs := #[.int .i64 0, .int .i64 0]) ?_ 0 _ rfl; (with_reducible repeat (first | refine blk_drewN ?_ _ | refine blk_drew ?_ | refine blk_alloc ?_ _)); exact BK283.out) hb); have n4_ := Aside0.mk (below_step (by repeat (first | (with_reducible first | exact HB.out | apply below_alloc | apply pw_below_drewN | apply below_drew1 | refine below_set ?_ GE279.out | refine below_set ?_ GE283.out) | exact HB.out)) hb); clear HO275; clear BK279; clear BK283; clear HB; have HO275 := n0_; have HO286 := n1_; have BK279 := n2_; have BK283 := n3_; have HB := n4_; clear n0_ n1_ n2_ n3_ n4_; clear hb ho39; obtain ⟨Ao40, co40, eo40⟩ := Kd.S_slice HO286.out; subst eo40) | ((with_reducible refine gate_callee (f := 20) rfl ?_); refine goesL_ (some 24) rfl rfl Try.func20 (by kernel_rfl) rfl #[.slice Ao40 y284.length co40, .int .i64 2] rfl (by (try simp only [List.map_toArray, List.map_cons, List.map_nil]); first | done | rfl | (simp only [List.length_drop, List.length_take]; rfl)) ?_; (with_reducible refine (face_Least.calls _ _ y284 2 t287 t288 t289 _ ?side1 ?side2 A3.out).mono ?_); (case side1 => repeat (first | exact (Kd.S_reads' HO286.out).2.2 | (with_reducible refine Kd.C_alloc ?_ _) | (with_reducible refine Kd.C_drewN ?_ _) | (with_reducible refine Kd.C_drew ?_))); (case side2 => exact (Kd.S_reads' HO286.out).2.1); rintro e w41 ⟨rfl, hb⟩; refine ⟨_, rfl, ?_⟩; have n0_ := Aside0.mk (Kd.S_below (by (with_reducible repeat (first | apply Kd.S_alloc | apply Kd.S_drewN | apply Kd.S_drew)); exact HO275.out) hb); have n1_ := Aside0.mk (Kd.S_below (by (with_reducible repeat (first | apply Kd.S_alloc | apply Kd.S_drewN | apply Kd.S_drew)); exact HO286.out) hb); have n2_ := Aside0.mk (blk_below (g := gb279) (o := .cells #[.int .i64 t276, .int .i64 t277] 24 (0, 0)) (by (with_reducible repeat (first | refine blk_drewN ?_ _ | refine blk_drew ?_ | refine blk_alloc ?_ _)); exact BK279.out) hb); have n3_ := Aside0.mk (blk_below (g := gb283) (o := .cells #[.int .i64 t280, .int .i64 t281] 24 (0, 0)) (by (with_reducible repeat (first | refine blk_drewN ?_ _ | refine blk_drew ?_ | refine blk_alloc ?_ _)); exact BK283.out) hb); have n4_ := Aside0.mk (below_step (by repeat (first | (with_reducible first | exact HB.out | apply below_alloc | apply pw_below_drewN | apply below_drew1 | refine below_set ?_ GE279.out | refine below_set ?_ GE283.out) | exact HB.out)) hb); clear HO275; clear HO286; clear BK279; clear BK283; clear HB; have HO275 := n0_; have HO286 := n1_; have BK279 := n2_; have BK283 := n3_; have HB := n4_; clear n0_ n1_ n2_ n3_ n4_; (try clear hb); (try clear hb2); (try clear hk); (try clear hi)) | ((with_reducible refine gate_dst (N := 6) rfl ?_); refine box_event ?hg (N := 6) ?hd (cs := #[.int .i64 0, .int .i64 0]) (t := 24) ?hr ?_; (case hd => rfl); (case hg => rfl); (case hr => first | (go_simp; done) | (go_simp; rfl)); intro gb290 hg w42 hbox hb; have n0_ := Aside0.mk (Kd.S_below (by (with_reducible repeat (first | apply Kd.S_alloc | apply Kd.S_drewN | apply Kd.S_drew)); exact HO275.out) hb); have n1_ := Aside0.mk (Kd.S_below (by (with_reducible repeat (first | apply Kd.S_alloc | apply Kd.S_drewN | apply Kd.S_drew)); exact HO286.out) hb); have n2_ := Aside0.mk (blk_below (g := gb279) (o := .cells #[.int .i64 t276, .int .i64 t277] 24 (0, 0)) (by (with_reducible repeat (first | refine blk_drewN ?_ _ | refine blk_drew ?_ | refine blk_alloc ?_ _)); exact BK279.out) hb); have n3_ := Aside0.mk (blk_below (g := gb283) (o := .cells #[.int .i64 t280, .int .i64 t281] 24 (0, 0)) (by (with_reducible repeat (first | refine blk_drewN ?_ _ | refine blk_drew ?_ | refine blk_alloc ?_ _)); exact BK283.out) hb); have n4_ := Aside0.mk (below_step (by repeat (first | (with_reducible first | exact HB.out | apply below_alloc | apply pw_below_drewN | apply below_drew1 | refine below_set ?_ GE279.out | refine below_set ?_ GE283.out) | exact HB.out)) hb); have n5_ := Aside0.mk (hbox); have n6_ := Aside0.mk ((by rw [hg]; exact (below_size (by repeat (first | (with_reducible first | exact HB.out | apply below_alloc | apply pw_below_drewN | apply below_drew1 | refine below_set ?_ GE279.out | refine below_set ?_ GE283.out) | exact HB.out))) : w.heap.size ≤ gb290)); have n7_ := Aside0.mk ((by rw [hg]; exact (below_size (by repeat (first | (with_reducible first | exact HB.out | apply below_alloc | apply pw_below_drewN | apply below_drew1 | refine below_set ?_ GE279.out | refine below_set ?_ GE283.out) | exact HB.out))) : w.heap.size ≤ gb290)); have n8_ := Aside0.mk ((by rw [hg]; exact Nat.ne_of_lt (blk_lt (g := gb279) (o := .cells #[.int .i64 t276, .int .i64 t277] 24 (0, 0)) (by (with_reducible repeat (first | refine blk_drewN ?_ _ | refine blk_drew ?_ | refine blk_alloc ?_ _)); exact BK279.out)) : gb279 ≠ gb290)); have n9_ := Aside0.mk ((by rw [hg]; exact Nat.ne_of_gt (blk_lt (g := gb279) (o := .cells #[.int .i64 t276, .int .i64 t277] 24 (0, 0)) (by (with_reducible repeat (first | refine blk_drewN ?_ _ | refine blk_drew ?_ | refine blk_alloc ?_ _)); exact BK279.out)) : gb290 ≠ gb279)); have n10_ := Aside0.mk ((by rw [hg]; exact Nat.ne_of_lt (blk_lt (g := gb283) (o := .cells #[.int .i64 t280, .int .i64 t281] 24 (0, 0)) (by (with_reducible repeat (first | refine blk_drewN ?_ _ | refine blk_drew ?_ | refine blk_alloc ?_ _)); exact BK283.out)) : gb283 ≠ gb290)); have n11_ := Aside0.mk ((by rw [hg]; exact Nat.ne_of_gt (blk_lt (g := gb283) (o := .cells #[.int .i64 t280, .int .i64 t281] 24 (0, 0)) (by (with_reducible repeat (first | refine blk_drewN ?_ _ | refine blk_drew ?_ | refine blk_alloc ?_ _)); exact BK283.out)) : gb290 ≠ gb283)); clear HO275; clear HO286; clear BK279; clear BK283; clear HB; have HO275 := n0_; have HO286 := n1_; have BK279 := n2_; have BK283 := n3_; have HB := n4_; have BK290 := n5_; have GW290 := n6_; have GE290 := n7_; have NB279_290 := n8_; have NB290_279 := n9_; have NB283_290 := n10_; have NB290_283 := n11_; clear n0_ n1_ n2_ n3_ n4_ n5_ n6_ n7_ n8_ n9_ n10_ n11_; clear hb hbox hg; have hnb43 := NB290_279.out; have hnc43 := NB279_290.out; have hnb44 := NB290_283.out; have hnc44 := NB283_290.out; have hcz45_0 : w42.cell? ⟨gb290, 0, none⟩ = some (.int .i64 0) := (blk_cell BK290.out 0).trans rfl; have hcz45_1 : w42.cell? ⟨gb290, 1, none⟩ = some (.int .i64 0) := (blk_cell BK290.out 1).trans rfl; have hfz45_0 := blk_frozen BK290.out 0; have hfz45_1 := blk_frozen BK290.out 1; have hcz46_0 : w42.cell? ⟨gb279, 0, none⟩ = some (.int .i64 t276) := (blk_cell BK279.out 0).trans rfl; have hcz46_1 : w42.cell? ⟨gb279, 1, none⟩ = some (.int .i64 t277) := (blk_cell BK279.out 1).trans rfl; have hfz46_0 := blk_frozen BK279.out 0; have hfz46_1 := blk_frozen BK279.out 1; have hcz47_0 : w42.cell? ⟨gb283, 0, none⟩ = some (.int .i64 t280) := (blk_cell BK283.out 0).trans rfl; have hcz47_1 : w42.cell? ⟨gb283, 1, none⟩ = some (.int .i64 t281) := (blk_cell BK283.out 1).trans rfl; have hfz47_0 := blk_frozen BK283.out 0; have hfz47_1 := blk_frozen BK283.out 1))
     go_ret
     exact ⟨by first | rfl | (simp [errW_none, errW_some] <;> rfl) | (simp [*, errW_none, errW_some] <;> rfl), by repeat (first | (with_reducible first | exact HB.out | apply below_alloc | apply pw_below_drewN | apply below_drew1 | refine below_set ?_ GE279.out | refine below_set ?_ GE283.out | refine below_set ?_ GE290.out) | exact HB.out)⟩
   ·rw [if_neg c6] at H
    have c6b0 : (t280 == 4 && (t281 == 3)) = false := by simpa using c6
    (try (have c6b1 : decide (t280 = 4 && (t281 == 3)) = false := by simpa using c6))
    (try (have c6b2 : (t280 == 4 && (t281 == 3)) = false := by simpa using c6))
    (try (have c6b3 : ¬ (t280 = 4 && (t281 == 3)) := by simpa using c6))
    clear c6
    obtain rfl := Option.some.inj H
    go_enter Try.func19, Try.ntmps19
    go_wp2_with (first | ((with_reducible refine gate_dst (N := 9) rfl ?_); refine Kd.S_lit k41 _ 41 ?hg (N := 9) ?hd (xs := ([(⟨1, 4, 4, ([] : List (S63))⟩ : S41)] : List (S41))) (inner := [.int .i64 1, .int .i64 4, .int .i64 4, .slice none 0 0]) (ok := fun _ => True) (okp := fun _ => True) ?hr ?hp (fun _ hk => hk) trivial (Below.refl _ _) (Nat.le_refl _) (by simp) ?_; (case hd => rfl); (case hg => rfl); (case hr => first | (go_simp; done) | (go_simp; rfl)); (case hp => exact (Reps.c4 (show Kd.M k41 _ _ _ (⟨1, 4, 4, ([] : List (S63))⟩ : S41) [.int .i64 1, .int .i64 4, .int .i64 4, .slice none 0 0] from (k41_mkM _ _ _ (⟨1, 4, 4, ([] : List (S63))⟩ : S41) (Kd.R_nil _ _ _ _ _))) (Reps.none _ _))); intro v274 w48 ho49 hb hg_ hnew_; clear hg_ hnew_; (first | rw [← Ny273.out] at ho49 | (simp only [Int.reduceToNat] at ho49; rw [← Ny273.out] at ho49)); have n0_ := Aside0.mk (Kd.S_lower ho49 (below_size (by repeat (first | (with_reducible first | exact HB.out | apply below_alloc | apply pw_below_drewN | apply below_drew1) | exact HB.out)))); have n1_ := Aside0.mk (below_step (by repeat (first | (with_reducible first | exact HB.out | apply below_alloc | apply pw_below_drewN | apply below_drew1) | exact HB.out)) hb); clear HB; have HO275 := n0_; have HB := n1_; clear n0_ n1_; clear hb ho49; obtain ⟨Ao50, co50, eo50⟩ := Kd.S_slice HO275.out; subst eo50) | ((with_reducible refine gate_callee (f := 20) rfl ?_); refine goesL_ (some 12) rfl rfl Try.func20 (by kernel_rfl) rfl #[.slice Ao50 y273.length co50, .int .i64 2] rfl (by (try simp only [List.map_toArray, List.map_cons, List.map_nil]); first | done | rfl | (simp only [List.length_drop, List.length_take]; rfl)) ?_; (with_reducible refine (face_Least.calls _ _ y273 2 t276 t277 t278 _ ?side1 ?side2 A1.out).mono ?_); (case side1 => repeat (first | exact (Kd.S_reads' HO275.out).2.2 | (with_reducible refine Kd.C_alloc ?_ _) | (with_reducible refine Kd.C_drewN ?_ _) | (with_reducible refine Kd.C_drew ?_))); (case side2 => exact (Kd.S_reads' HO275.out).2.1); rintro e w51 ⟨rfl, hb⟩; refine ⟨_, rfl, ?_⟩; have n0_ := Aside0.mk (Kd.S_below (by (with_reducible repeat (first | apply Kd.S_alloc | apply Kd.S_drewN | apply Kd.S_drew)); exact HO275.out) hb); have n1_ := Aside0.mk (below_step (by repeat (first | (with_reducible first | exact HB.out | apply below_alloc | apply pw_below_drewN | apply below_drew1) | exact HB.out)) hb); clear HO275; clear HB; have HO275 := n0_; have HB := n1_; clear n0_ n1_; (try clear hb); (try clear hb2); (try clear hk); (try clear hi)) | ((with_reducible refine gate_dst (N := 2) rfl ?_); refine box_event ?hg (N := 2) ?hd (cs := #[.int .i64 0, .int .i64 0]) (t := 24) ?hr ?_; (case hd => rfl); (case hg => rfl); (case hr => first | (go_simp; done) | (go_simp; rfl)); intro gb279 hg w52 hbox hb; have n0_ := Aside0.mk (Kd.S_below (by (with_reducible repeat (first | apply Kd.S_alloc | apply Kd.S_drewN | apply Kd.S_drew)); exact HO275.out) hb); have n1_ := Aside0.mk (below_step (by repeat (first | (with_reducible first | exact HB.out | apply below_alloc | apply pw_below_drewN | apply below_drew1) | exact HB.out)) hb); have n2_ := Aside0.mk (hbox); have n3_ := Aside0.mk ((by rw [hg]; exact (below_size (by repeat (first | (with_reducible first | exact HB.out | apply below_alloc | apply pw_below_drewN | apply below_drew1) | exact HB.out))) : w.heap.size ≤ gb279)); have n4_ := Aside0.mk ((by rw [hg]; exact (below_size (by repeat (first | (with_reducible first | exact HB.out | apply below_alloc | apply pw_below_drewN | apply below_drew1) | exact HB.out))) : w.heap.size ≤ gb279)); clear HO275; clear HB; have HO275 := n0_; have HB := n1_; have BK279 := n2_; have GW279 := n3_; have GE279 := n4_; clear n0_ n1_ n2_ n3_ n4_; clear hb hbox hg; have hcz53_0 : w52.cell? ⟨gb279, 0, none⟩ = some (.int .i64 0) := (blk_cell BK279.out 0).trans rfl; have hcz53_1 : w52.cell? ⟨gb279, 1, none⟩ = some (.int .i64 0) := (blk_cell BK279.out 1).trans rfl; have hfz53_0 := blk_frozen BK279.out 0; have hfz53_1 := blk_frozen BK279.out 1) | ((with_reducible refine gate_callee (f := 20) rfl ?_); refine goesL_ (some 17) rfl rfl Try.func20 (by kernel_rfl) rfl #[.slice Ao50 y273.length co50, .int .i64 4] rfl (by (try simp only [List.map_toArray, List.map_cons, List.map_nil]); first | done | rfl | (simp only [List.length_drop, List.length_take]; rfl)) ?_; (with_reducible refine (face_Least.calls _ _ y273 4 t280 t281 t282 _ ?side1 ?side2 A2.out).mono ?_); (case side1 => refine (Kd.S_reads' (e := 41) (base := w.heap.size) (ok := fun k_ => True) (n := y273.length) (c := co50) ?_).2.2; exact (by (with_reducible repeat (first | apply Kd.S_alloc | apply Kd.S_drewN | apply Kd.S_drew)); exact (Kd.S_mono (Kd.S_far (p := ⟨gb279, 1, none⟩) (Kd.S_far (p := ⟨gb279, 0, none⟩) (Kd.S_types HO275.out BK279.out (by decide)) (fun _ hk => hk.2) (.int .i64 t276)) (fun _ hk => hk.2) (.int .i64 t277)) (fun _ h_ => h_.1)))); (case side2 => exact (Kd.S_reads' HO275.out).2.1); rintro e w54 ⟨rfl, hb⟩; refine ⟨_, rfl, ?_⟩; have n0_ := Aside0.mk (Kd.S_below (by (with_reducible repeat (first | apply Kd.S_alloc | apply Kd.S_drewN | apply Kd.S_drew)); exact (Kd.S_mono (Kd.S_far (p := ⟨gb279, 1, none⟩) (Kd.S_far (p := ⟨gb279, 0, none⟩) (Kd.S_types HO275.out BK279.out (by decide)) (fun _ hk => hk.2) (.int .i64 t276)) (fun _ hk => hk.2) (.int .i64 t277)) (fun _ h_ => h_.1))) hb); have n1_ := Aside0.mk (blk_below (g := gb279) (o := .cells #[.int .i64 t276, .int .i64 t277] 24 (0, 0)) (by (with_reducible repeat (first | refine blk_drewN ?_ _ | refine blk_drew ?_ | refine blk_alloc ?_ _)); refine blk_put (cs := #[.int .i64 t276, .int .i64 0]) ?_ 1 _ rfl; (with_reducible repeat (first | refine blk_drewN ?_ _ | refine blk_drew ?_ | refine blk_alloc ?_ _)); refine blk_put (cs := #[.int .i64 0, .int .i64 0]) ?_ 0 _ rfl; (with_reducible repeat (first | refine blk_drewN ?_ _ | refine blk_drew ?_ | refine blk_alloc ?_ _)); exact BK279.out) hb); have n2_ := Aside0.mk (below_step (by repeat (first | (with_reducible first | exact HB.out | apply below_alloc | apply pw_below_drewN | apply below_drew1 | refine below_set ?_ GE279.out) | exact HB.out)) hb); clear HO275; clear BK279; clear HB; have HO275 := n0_; have BK279 := n1_; have HB := n2_; clear n0_ n1_ n2_; (try clear hb); (try clear hb2); (try clear hk); (try clear hi)) | ((with_reducible refine gate_dst (N := 4) rfl ?_); refine box_event ?hg (N := 4) ?hd (cs := #[.int .i64 0, .int .i64 0]) (t := 24) ?hr ?_; (case hd => rfl); (case hg => rfl); (case hr => first | (go_simp; done) | (go_simp; rfl)); intro gb283 hg w55 hbox hb; have n0_ := Aside0.mk (Kd.S_below (by (with_reducible repeat (first | apply Kd.S_alloc | apply Kd.S_drewN | apply Kd.S_drew)); exact HO275.out) hb); have n1_ := Aside0.mk (blk_below (g := gb279) (o := .cells #[.int .i64 t276, .int .i64 t277] 24 (0, 0)) (by (with_reducible repeat (first | refine blk_drewN ?_ _ | refine blk_drew ?_ | refine blk_alloc ?_ _)); exact BK279.out) hb); have n2_ := Aside0.mk (below_step (by repeat (first | (with_reducible first | exact HB.out | apply below_alloc | apply pw_below_drewN | apply below_drew1 | refine below_set ?_ GE279.out) | exact HB.out)) hb); have n3_ := Aside0.mk (hbox); have n4_ := Aside0.mk ((by rw [hg]; exact (below_size (by repeat (first | (with_reducible first | exact HB.out | apply below_alloc | apply pw_below_drewN | apply below_drew1 | refine below_set ?_ GE279.out) | exact HB.out))) : w.heap.size ≤ gb283)); have n5_ := Aside0.mk ((by rw [hg]; exact (below_size (by repeat (first | (with_reducible first | exact HB.out | apply below_alloc | apply pw_below_drewN | apply below_drew1 | refine below_set ?_ GE279.out) | exact HB.out))) : w.heap.size ≤ gb283)); have n6_ := Aside0.mk ((by rw [hg]; exact Nat.ne_of_lt (blk_lt (g := gb279) (o := .cells #[.int .i64 t276, .int .i64 t277] 24 (0, 0)) (by (with_reducible repeat (first | refine blk_drewN ?_ _ | refine blk_drew ?_ | refine blk_alloc ?_ _)); exact BK279.out)) : gb279 ≠ gb283)); have n7_ := Aside0.mk ((by rw [hg]; exact Nat.ne_of_gt (blk_lt (g := gb279) (o := .cells #[.int .i64 t276, .int .i64 t277] 24 (0, 0)) (by (with_reducible repeat (first | refine blk_drewN ?_ _ | refine blk_drew ?_ | refine blk_alloc ?_ _)); exact BK279.out)) : gb283 ≠ gb279)); clear HO275; clear BK279; clear HB; have HO275 := n0_; have BK279 := n1_; have HB := n2_; have BK283 := n3_; have GW283 := n4_; have GE283 := n5_; have NB279_283 := n6_; have NB283_279 := n7_; clear n0_ n1_ n2_ n3_ n4_ n5_ n6_ n7_; clear hb hbox hg; have hnb56 := NB283_279.out; have hnc56 := NB279_283.out; have hcz57_0 : w55.cell? ⟨gb283, 0, none⟩ = some (.int .i64 0) := (blk_cell BK283.out 0).trans rfl; have hcz57_1 : w55.cell? ⟨gb283, 1, none⟩ = some (.int .i64 0) := (blk_cell BK283.out 1).trans rfl; have hfz57_0 := blk_frozen BK283.out 0; have hfz57_1 := blk_frozen BK283.out 1) | ((with_reducible refine gate_dst (N := 23) rfl ?_); refine Kd.S_lit k41 _ 41 ?hg (N := 23) ?hd (xs := ([(⟨4, 4, 4, ([] : List (S63))⟩ : S41), (⟨1, 4, 4, ([] : List (S63))⟩ : S41)] : List (S41))) (inner := [.int .i64 4, .int .i64 4, .int .i64 4, .slice none 0 0, .int .i64 1, .int .i64 4, .int .i64 4, .slice none 0 0]) (ok := fun _ => True) (okp := fun _ => True) ?hr ?hp (fun _ hk => hk) trivial (Below.refl _ _) (Nat.le_refl _) (by simp) ?_; (case hd => rfl); (case hg => rfl); (case hr => first | (go_simp; done) | (go_simp; rfl)); (case hp => exact (Reps.c4 (show Kd.M k41 _ _ _ (⟨4, 4, 4, ([] : List (S63))⟩ : S41) [.int .i64 4, .int .i64 4, .int .i64 4, .slice none 0 0] from (k41_mkM _ _ _ (⟨4, 4, 4, ([] : List (S63))⟩ : S41) (Kd.R_nil _ _ _ _ _))) (Reps.c4 (show Kd.M k41 _ _ _ (⟨1, 4, 4, ([] : List (S63))⟩ : S41) [.int .i64 1, .int .i64 4, .int .i64 4, .slice none 0 0] from (k41_mkM _ _ _ (⟨1, 4, 4, ([] : List (S63))⟩ : S41) (Kd.R_nil _ _ _ _ _))) (Reps.none _ _)))); intro v285 w58 ho59 hb hg_ hnew_; clear hg_ hnew_; (first | rw [← Ny284.out] at ho59 | (simp only [Int.reduceToNat] at ho59; rw [← Ny284.out] at ho59)); have n0_ := Aside0.mk (Kd.S_elder' (by (with_reducible repeat (first | apply Kd.S_alloc | apply Kd.S_drewN | apply Kd.S_drew)); exact (Kd.S_mono (Kd.S_far (p := ⟨gb283, 1, none⟩) (Kd.S_far (p := ⟨gb283, 0, none⟩) (Kd.S_types HO275.out BK283.out (by decide)) (fun _ hk => hk.2) (.int .i64 t280)) (fun _ hk => hk.2) (.int .i64 t281)) (fun _ h_ => h_.1))) (Kd.S_base ho59) hb); have n1_ := Aside0.mk (Kd.S_lower (Kd.S_new' ho59 (Kd.S_lt (by (with_reducible repeat (first | apply Kd.S_alloc | apply Kd.S_drewN | apply Kd.S_drew)); exact (Kd.S_mono (Kd.S_far (p := ⟨gb283, 1, none⟩) (Kd.S_far (p := ⟨gb283, 0, none⟩) (Kd.S_types HO275.out BK283.out (by decide)) (fun _ hk => hk.2) (.int .i64 t280)) (fun _ hk => hk.2) (.int .i64 t281)) (fun _ h_ => h_.1))))) (below_size (by repeat (first | (with_reducible first | exact HB.out | apply below_alloc | apply pw_below_drewN | apply below_drew1 | refine below_set ?_ GE279.out | refine below_set ?_ GE283.out) | exact HB.out)))); have n2_ := Aside0.mk (blk_below (g := gb279) (o := .cells #[.int .i64 t276, .int .i64 t277] 24 (0, 0)) (by (with_reducible repeat (first | refine blk_drewN ?_ _ | refine blk_drew ?_ | refine blk_alloc ?_ _)); refine blk_far ?_ NB279_283.out _; (with_reducible repeat (first | refine blk_drewN ?_ _ | refine blk_drew ?_ | refine blk_alloc ?_ _)); refine blk_far ?_ NB279_283.out _; (with_reducible repeat (first | refine blk_drewN ?_ _ | refine blk_drew ?_ | refine blk_alloc ?_ _)); exact BK279.out) hb); have n3_ := Aside0.mk (blk_below (g := gb283) (o := .cells #[.int .i64 t280, .int .i64 t281] 24 (0, 0)) (by (with_reducible repeat (first | refine blk_drewN ?_ _ | refine blk_drew ?_ | refine blk_alloc ?_ _)); refine blk_put (cs := #[.int .i64 t280, .int .i64 0]) ?_ 1 _ rfl; (with_reducible repeat (first | refine blk_drewN ?_ _ | refine blk_drew ?_ | refine blk_alloc ?_ _)); refine blk_put (cs := #[.int .i64 0, .int .i64 0]) ?_ 0 _ rfl; (with_reducible repeat (first | refine blk_drewN ?_ _ | refine blk_drew ?_ | refine blk_alloc ?_ _)); exact BK283.out) hb); have n4_ := Aside0.mk (below_step (by repeat (first | (with_reducible first | exact HB.out | apply below_alloc | apply pw_below_drewN | apply below_drew1 | refine below_set ?_ GE279.out | refine below_set ?_ GE283.out) | exact HB.out)) hb); clear HO275; clear BK279; clear BK283; clear HB; have HO275 := n0_; have HO286 := n1_; have BK279 := n2_; have BK283 := n3_; have HB := n4_; clear n0_ n1_ n2_ n3_ n4_; clear hb ho59; obtain ⟨Ao60, co60, eo60⟩ := Kd.S_slice HO286.out; subst eo60) | ((with_reducible refine gate_callee (f := 20) rfl ?_); refine goesL_ (some 24) rfl rfl Try.func20 (by kernel_rfl) rfl #[.slice Ao60 y284.length co60, .int .i64 2] rfl (by (try simp only [List.map_toArray, List.map_cons, List.map_nil]); first | done | rfl | (simp only [List.length_drop, List.length_take]; rfl)) ?_; (with_reducible refine (face_Least.calls _ _ y284 2 t287 t288 t289 _ ?side1 ?side2 A3.out).mono ?_); (case side1 => repeat (first | exact (Kd.S_reads' HO286.out).2.2 | (with_reducible refine Kd.C_alloc ?_ _) | (with_reducible refine Kd.C_drewN ?_ _) | (with_reducible refine Kd.C_drew ?_))); (case side2 => exact (Kd.S_reads' HO286.out).2.1); rintro e w61 ⟨rfl, hb⟩; refine ⟨_, rfl, ?_⟩; have n0_ := Aside0.mk (Kd.S_below (by (with_reducible repeat (first | apply Kd.S_alloc | apply Kd.S_drewN | apply Kd.S_drew)); exact HO275.out) hb); have n1_ := Aside0.mk (Kd.S_below (by (with_reducible repeat (first | apply Kd.S_alloc | apply Kd.S_drewN | apply Kd.S_drew)); exact HO286.out) hb); have n2_ := Aside0.mk (blk_below (g := gb279) (o := .cells #[.int .i64 t276, .int .i64 t277] 24 (0, 0)) (by (with_reducible repeat (first | refine blk_drewN ?_ _ | refine blk_drew ?_ | refine blk_alloc ?_ _)); exact BK279.out) hb); have n3_ := Aside0.mk (blk_below (g := gb283) (o := .cells #[.int .i64 t280, .int .i64 t281] 24 (0, 0)) (by (with_reducible repeat (first | refine blk_drewN ?_ _ | refine blk_drew ?_ | refine blk_alloc ?_ _)); exact BK283.out) hb); have n4_ := Aside0.mk (below_step (by repeat (first | (with_reducible first | exact HB.out | apply below_alloc | apply pw_below_drewN | apply below_drew1 | refine below_set ?_ GE279.out | refine below_set ?_ GE283.out) | exact HB.out)) hb); clear HO275; clear HO286; clear BK279; clear BK283; clear HB; have HO275 := n0_; have HO286 := n1_; have BK279 := n2_; have BK283 := n3_; have HB := n4_; clear n0_ n1_ n2_ n3_ n4_; (try clear hb); (try clear hb2); (try clear hk); (try clear hi)) | ((with_reducible refine gate_dst (N := 6) rfl ?_); refine box_event ?hg (N := 6) ?hd (cs := #[.int .i64 0, .int .i64 0]) (t := 24) ?hr ?_; (case hd => rfl); (case hg => rfl); (case hr => first | (go_simp; done) | (go_simp; rfl)); intro gb290 hg w62 hbox hb; have n0_ := Aside0.mk (Kd.S_below (by (with_reducible repeat (first | apply Kd.S_alloc | apply Kd.S_drewN | apply Kd.S_drew)); exact HO275.out) hb); have n1_ := Aside0.mk (Kd.S_below (by (with_reducible repeat (first | apply Kd.S_alloc | apply Kd.S_drewN | apply Kd.S_drew)); exact HO286.out) hb); have n2_ := Aside0.mk (blk_below (g := gb279) (o := .cells #[.int .i64 t276, .int .i64 t277] 24 (0, 0)) (by (with_reducible repeat (first | refine blk_drewN ?_ _ | refine blk_drew ?_ | refine blk_alloc ?_ _)); exact BK279.out) hb); have n3_ := Aside0.mk (blk_below (g := gb283) (o := .cells #[.int .i64 t280, .int .i64 t281] 24 (0, 0)) (by (with_reducible repeat (first | refine blk_drewN ?_ _ | refine blk_drew ?_ | refine blk_alloc ?_ _)); exact BK283.out) hb); have n4_ := Aside0.mk (below_step (by repeat (first | (with_reducible first | exact HB.out | apply below_alloc | apply pw_below_drewN | apply below_drew1 | refine below_set ?_ GE279.out | refine below_set ?_ GE283.out) | exact HB.out)) hb); have n5_ := Aside0.mk (hbox); have n6_ := Aside0.mk ((by rw [hg]; exact (below_size (by repeat (first | (with_reducible first | exact HB.out | apply below_alloc | apply pw_below_drewN | apply below_drew1 | refine below_set ?_ GE279.out | refine below_set ?_ GE283.out) | exact HB.out))) : w.heap.size ≤ gb290)); have n7_ := Aside0.mk ((by rw [hg]; exact (below_size (by repeat (first | (with_reducible first | exact HB.out | apply below_alloc | apply pw_below_drewN | apply below_drew1 | refine below_set ?_ GE279.out | refine below_set ?_ GE283.out) | exact HB.out))) : w.heap.size ≤ gb290)); have n8_ := Aside0.mk ((by rw [hg]; exact Nat.ne_of_lt (blk_lt (g := gb279) (o := .cells #[.int .i64 t276, .int .i64 t277] 24 (0, 0)) (by (with_reducible repeat (first | refine blk_drewN ?_ _ | refine blk_drew ?_ | refine blk_alloc ?_ _)); exact BK279.out)) : gb279 ≠ gb290)); have n9_ := Aside0.mk ((by rw [hg]; exact Nat.ne_of_gt (blk_lt (g := gb279) (o := .cells #[.int .i64 t276, .int .i64 t277] 24 (0, 0)) (by (with_reducible repeat (first | refine blk_drewN ?_ _ | refine blk_drew ?_ | refine blk_alloc ?_ _)); exact BK279.out)) : gb290 ≠ gb279)); have n10_ := Aside0.mk ((by rw [hg]; exact Nat.ne_of_lt (blk_lt (g := gb283) (o := .cells #[.int .i64 t280, .int .i64 t281] 24 (0, 0)) (by (with_reducible repeat (first | refine blk_drewN ?_ _ | refine blk_drew ?_ | refine blk_alloc ?_ _)); exact BK283.out)) : gb283 ≠ gb290)); have n11_ := Aside0.mk ((by rw [hg]; exact Nat.ne_of_gt (blk_lt (g := gb283) (o := .cells #[.int .i64 t280, .int .i64 t281] 24 (0, 0)) (by (with_reducible repeat (first | refine blk_drewN ?_ _ | refine blk_drew ?_ | refine blk_alloc ?_ _)); exact BK283.out)) : gb290 ≠ gb283)); clear HO275; clear HO286; clear BK279; clear BK283; clear HB; have HO275 := n0_; have HO286 := n1_; have BK279 := n2_; have BK283 := n3_; have HB := n4_; have BK290 := n5_; have GW290 := n6_; have GE290 := n7_; have NB279_290 := n8_; have NB290_279 := n9_; have NB283_290 := n10_; have NB290_283 := n11_; clear n0_ n1_ n2_ n3_ n4_ n5_ n6_ n7_ n8_ n9_ n10_ n11_; clear hb hbox hg; have hnb63 := NB290_279.out; have hnc63 := NB279_290.out; have hnb64 := NB290_283.out; have hnc64 := NB283_290.out; have hcz65_0 : w62.cell? ⟨gb290, 0, none⟩ = some (.int .i64 0) := (blk_cell BK290.out 0).trans rfl; have hcz65_1 : w62.cell? ⟨gb290, 1, none⟩ = some (.int .i64 0) := (blk_cell BK290.out 1).trans rfl; have hfz65_0 := blk_frozen BK290.out 0; have hfz65_1 := blk_frozen BK290.out 1; have hcz66_0 : w62.cell? ⟨gb279, 0, none⟩ = some (.int .i64 t276) := (blk_cell BK279.out 0).trans rfl; have hcz66_1 : w62.cell? ⟨gb279, 1, none⟩ = some (.int .i64 t277) := (blk_cell BK279.out 1).trans rfl; have hfz66_0 := blk_frozen BK279.out 0; have hfz66_1 := blk_frozen BK279.out 1; have hcz67_0 : w62.cell? ⟨gb283, 0, none⟩ = some (.int .i64 t280) := (blk_cell BK283.out 0).trans rfl; have hcz67_1 : w62.cell? ⟨gb283, 1, none⟩ = some (.int .i64 t281) := (blk_cell BK283.out 1).trans rfl; have hfz67_0 := blk_frozen BK283.out 0; have hfz67_1 := blk_frozen BK283.out 1))
    go_ret
    exact ⟨by first | rfl | (simp [errW_none, errW_some] <;> rfl) | (simp [*, errW_none, errW_some] <;> rfl), by repeat (first | (with_reducible first | exact HB.out | apply below_alloc | apply pw_below_drewN | apply below_drew1 | refine below_set ?_ GE279.out | refine below_set ?_ GE283.out | refine below_set ?_ GE290.out) | exact HB.out)⟩
  ·rw [if_neg c5] at H
   have c5b0 : (t278 == 0) = false := beq_eq_false_iff_ne.mpr c5
   have c5b1 : (t278 != 0) = true := bne_iff_ne.mpr c5
   obtain rfl := Option.some.inj H
   go_enter Try.func19, Try.ntmps19
   go_wp2_with (first | ((with_reducible refine gate_dst (N := 9) rfl ?_); refine Kd.S_lit k41 _ 41 ?hg (N := 9) ?hd (xs := ([(⟨1, 4, 4, ([] : List (S63))⟩ : S41)] : List (S41))) (inner := [.int .i64 1, .int .i64 4, .int .i64 4, .slice none 0 0]) (ok := fun _ => True) (okp := fun _ => True) ?hr ?hp (fun _ hk => hk) trivial (Below.refl _ _) (Nat.le_refl _) (by simp) ?_; (case hd => rfl); (case hg => rfl); (case hr => first | (go_simp; done) | (go_simp; rfl)); (case hp => exact (Reps.c4 (show Kd.M k41 _ _ _ (⟨1, 4, 4, ([] : List (S63))⟩ : S41) [.int .i64 1, .int .i64 4, .int .i64 4, .slice none 0 0] from (k41_mkM _ _ _ (⟨1, 4, 4, ([] : List (S63))⟩ : S41) (Kd.R_nil _ _ _ _ _))) (Reps.none _ _))); intro v274 w68 ho69 hb hg_ hnew_; clear hg_ hnew_; (first | rw [← Ny273.out] at ho69 | (simp only [Int.reduceToNat] at ho69; rw [← Ny273.out] at ho69)); have n0_ := Aside0.mk (Kd.S_lower ho69 (below_size (by repeat (first | (with_reducible first | exact HB.out | apply below_alloc | apply pw_below_drewN | apply below_drew1) | exact HB.out)))); have n1_ := Aside0.mk (below_step (by repeat (first | (with_reducible first | exact HB.out | apply below_alloc | apply pw_below_drewN | apply below_drew1) | exact HB.out)) hb); clear HB; have HO275 := n0_; have HB := n1_; clear n0_ n1_; clear hb ho69; obtain ⟨Ao70, co70, eo70⟩ := Kd.S_slice HO275.out; subst eo70) | ((with_reducible refine gate_callee (f := 20) rfl ?_); refine goesL_ (some 12) rfl rfl Try.func20 (by kernel_rfl) rfl #[.slice Ao70 y273.length co70, .int .i64 2] rfl (by (try simp only [List.map_toArray, List.map_cons, List.map_nil]); first | done | rfl | (simp only [List.length_drop, List.length_take]; rfl)) ?_; (with_reducible refine (face_Least.calls _ _ y273 2 t276 t277 t278 _ ?side1 ?side2 A1.out).mono ?_); (case side1 => repeat (first | exact (Kd.S_reads' HO275.out).2.2 | (with_reducible refine Kd.C_alloc ?_ _) | (with_reducible refine Kd.C_drewN ?_ _) | (with_reducible refine Kd.C_drew ?_))); (case side2 => exact (Kd.S_reads' HO275.out).2.1); rintro e w71 ⟨rfl, hb⟩; refine ⟨_, rfl, ?_⟩; have n0_ := Aside0.mk (Kd.S_below (by (with_reducible repeat (first | apply Kd.S_alloc | apply Kd.S_drewN | apply Kd.S_drew)); exact HO275.out) hb); have n1_ := Aside0.mk (below_step (by repeat (first | (with_reducible first | exact HB.out | apply below_alloc | apply pw_below_drewN | apply below_drew1) | exact HB.out)) hb); clear HO275; clear HB; have HO275 := n0_; have HB := n1_; clear n0_ n1_; (try clear hb); (try clear hb2); (try clear hk); (try clear hi)) | ((with_reducible refine gate_dst (N := 2) rfl ?_); refine box_event ?hg (N := 2) ?hd (cs := #[.int .i64 0, .int .i64 0]) (t := 24) ?hr ?_; (case hd => rfl); (case hg => rfl); (case hr => first | (go_simp; done) | (go_simp; rfl)); intro gb279 hg w72 hbox hb; have n0_ := Aside0.mk (Kd.S_below (by (with_reducible repeat (first | apply Kd.S_alloc | apply Kd.S_drewN | apply Kd.S_drew)); exact HO275.out) hb); have n1_ := Aside0.mk (below_step (by repeat (first | (with_reducible first | exact HB.out | apply below_alloc | apply pw_below_drewN | apply below_drew1) | exact HB.out)) hb); have n2_ := Aside0.mk (hbox); have n3_ := Aside0.mk ((by rw [hg]; exact (below_size (by repeat (first | (with_reducible first | exact HB.out | apply below_alloc | apply pw_below_drewN | apply below_drew1) | exact HB.out))) : w.heap.size ≤ gb279)); have n4_ := Aside0.mk ((by rw [hg]; exact (below_size (by repeat (first | (with_reducible first | exact HB.out | apply below_alloc | apply pw_below_drewN | apply below_drew1) | exact HB.out))) : w.heap.size ≤ gb279)); clear HO275; clear HB; have HO275 := n0_; have HB := n1_; have BK279 := n2_; have GW279 := n3_; have GE279 := n4_; clear n0_ n1_ n2_ n3_ n4_; clear hb hbox hg; have hcz73_0 : w72.cell? ⟨gb279, 0, none⟩ = some (.int .i64 0) := (blk_cell BK279.out 0).trans rfl; have hcz73_1 : w72.cell? ⟨gb279, 1, none⟩ = some (.int .i64 0) := (blk_cell BK279.out 1).trans rfl; have hfz73_0 := blk_frozen BK279.out 0; have hfz73_1 := blk_frozen BK279.out 1) | ((with_reducible refine gate_callee (f := 20) rfl ?_); refine goesL_ (some 17) rfl rfl Try.func20 (by kernel_rfl) rfl #[.slice Ao70 y273.length co70, .int .i64 4] rfl (by (try simp only [List.map_toArray, List.map_cons, List.map_nil]); first | done | rfl | (simp only [List.length_drop, List.length_take]; rfl)) ?_; (with_reducible refine (face_Least.calls _ _ y273 4 t280 t281 t282 _ ?side1 ?side2 A2.out).mono ?_); (case side1 => refine (Kd.S_reads' (e := 41) (base := w.heap.size) (ok := fun k_ => True) (n := y273.length) (c := co70) ?_).2.2; exact (by (with_reducible repeat (first | apply Kd.S_alloc | apply Kd.S_drewN | apply Kd.S_drew)); exact (Kd.S_mono (Kd.S_far (p := ⟨gb279, 1, none⟩) (Kd.S_far (p := ⟨gb279, 0, none⟩) (Kd.S_types HO275.out BK279.out (by decide)) (fun _ hk => hk.2) (.int .i64 t276)) (fun _ hk => hk.2) (.int .i64 t277)) (fun _ h_ => h_.1)))); (case side2 => exact (Kd.S_reads' HO275.out).2.1); rintro e w74 ⟨rfl, hb⟩; refine ⟨_, rfl, ?_⟩; have n0_ := Aside0.mk (Kd.S_below (by (with_reducible repeat (first | apply Kd.S_alloc | apply Kd.S_drewN | apply Kd.S_drew)); exact (Kd.S_mono (Kd.S_far (p := ⟨gb279, 1, none⟩) (Kd.S_far (p := ⟨gb279, 0, none⟩) (Kd.S_types HO275.out BK279.out (by decide)) (fun _ hk => hk.2) (.int .i64 t276)) (fun _ hk => hk.2) (.int .i64 t277)) (fun _ h_ => h_.1))) hb); have n1_ := Aside0.mk (blk_below (g := gb279) (o := .cells #[.int .i64 t276, .int .i64 t277] 24 (0, 0)) (by (with_reducible repeat (first | refine blk_drewN ?_ _ | refine blk_drew ?_ | refine blk_alloc ?_ _)); refine blk_put (cs := #[.int .i64 t276, .int .i64 0]) ?_ 1 _ rfl; (with_reducible repeat (first | refine blk_drewN ?_ _ | refine blk_drew ?_ | refine blk_alloc ?_ _)); refine blk_put (cs := #[.int .i64 0, .int .i64 0]) ?_ 0 _ rfl; (with_reducible repeat (first | refine blk_drewN ?_ _ | refine blk_drew ?_ | refine blk_alloc ?_ _)); exact BK279.out) hb); have n2_ := Aside0.mk (below_step (by repeat (first | (with_reducible first | exact HB.out | apply below_alloc | apply pw_below_drewN | apply below_drew1 | refine below_set ?_ GE279.out) | exact HB.out)) hb); clear HO275; clear BK279; clear HB; have HO275 := n0_; have BK279 := n1_; have HB := n2_; clear n0_ n1_ n2_; (try clear hb); (try clear hb2); (try clear hk); (try clear hi)) | ((with_reducible refine gate_dst (N := 4) rfl ?_); refine box_event ?hg (N := 4) ?hd (cs := #[.int .i64 0, .int .i64 0]) (t := 24) ?hr ?_; (case hd => rfl); (case hg => rfl); (case hr => first | (go_simp; done) | (go_simp; rfl)); intro gb283 hg w75 hbox hb; have n0_ := Aside0.mk (Kd.S_below (by (with_reducible repeat (first | apply Kd.S_alloc | apply Kd.S_drewN | apply Kd.S_drew)); exact HO275.out) hb); have n1_ := Aside0.mk (blk_below (g := gb279) (o := .cells #[.int .i64 t276, .int .i64 t277] 24 (0, 0)) (by (with_reducible repeat (first | refine blk_drewN ?_ _ | refine blk_drew ?_ | refine blk_alloc ?_ _)); exact BK279.out) hb); have n2_ := Aside0.mk (below_step (by repeat (first | (with_reducible first | exact HB.out | apply below_alloc | apply pw_below_drewN | apply below_drew1 | refine below_set ?_ GE279.out) | exact HB.out)) hb); have n3_ := Aside0.mk (hbox); have n4_ := Aside0.mk ((by rw [hg]; exact (below_size (by repeat (first | (with_reducible first | exact HB.out | apply below_alloc | apply pw_below_drewN | apply below_drew1 | refine below_set ?_ GE279.out) | exact HB.out))) : w.heap.size ≤ gb283)); have n5_ := Aside0.mk ((by rw [hg]; exact (below_size (by repeat (first | (with_reducible first | exact HB.out | apply below_alloc | apply pw_below_drewN | apply below_drew1 | refine below_set ?_ GE279.out) | exact HB.out))) : w.heap.size ≤ gb283)); have n6_ := Aside0.mk ((by rw [hg]; exact Nat.ne_of_lt (blk_lt (g := gb279) (o := .cells #[.int .i64 t276, .int .i64 t277] 24 (0, 0)) (by (with_reducible repeat (first | refine blk_drewN ?_ _ | refine blk_drew ?_ | refine blk_alloc ?_ _)); exact BK279.out)) : gb279 ≠ gb283)); have n7_ := Aside0.mk ((by rw [hg]; exact Nat.ne_of_gt (blk_lt (g := gb279) (o := .cells #[.int .i64 t276, .int .i64 t277] 24 (0, 0)) (by (with_reducible repeat (first | refine blk_drewN ?_ _ | refine blk_drew ?_ | refine blk_alloc ?_ _)); exact BK279.out)) : gb283 ≠ gb279)); clear HO275; clear BK279; clear HB; have HO275 := n0_; have BK279 := n1_; have HB := n2_; have BK283 := n3_; have GW283 := n4_; have GE283 := n5_; have NB279_283 := n6_; have NB283_279 := n7_; clear n0_ n1_ n2_ n3_ n4_ n5_ n6_ n7_; clear hb hbox hg; have hnb76 := NB283_279.out; have hnc76 := NB279_283.out; have hcz77_0 : w75.cell? ⟨gb283, 0, none⟩ = some (.int .i64 0) := (blk_cell BK283.out 0).trans rfl; have hcz77_1 : w75.cell? ⟨gb283, 1, none⟩ = some (.int .i64 0) := (blk_cell BK283.out 1).trans rfl; have hfz77_0 := blk_frozen BK283.out 0; have hfz77_1 := blk_frozen BK283.out 1) | ((with_reducible refine gate_dst (N := 23) rfl ?_); refine Kd.S_lit k41 _ 41 ?hg (N := 23) ?hd (xs := ([(⟨4, 4, 4, ([] : List (S63))⟩ : S41), (⟨1, 4, 4, ([] : List (S63))⟩ : S41)] : List (S41))) (inner := [.int .i64 4, .int .i64 4, .int .i64 4, .slice none 0 0, .int .i64 1, .int .i64 4, .int .i64 4, .slice none 0 0]) (ok := fun _ => True) (okp := fun _ => True) ?hr ?hp (fun _ hk => hk) trivial (Below.refl _ _) (Nat.le_refl _) (by simp) ?_; (case hd => rfl); (case hg => rfl); (case hr => first | (go_simp; done) | (go_simp; rfl)); (case hp => exact (Reps.c4 (show Kd.M k41 _ _ _ (⟨4, 4, 4, ([] : List (S63))⟩ : S41) [.int .i64 4, .int .i64 4, .int .i64 4, .slice none 0 0] from (k41_mkM _ _ _ (⟨4, 4, 4, ([] : List (S63))⟩ : S41) (Kd.R_nil _ _ _ _ _))) (Reps.c4 (show Kd.M k41 _ _ _ (⟨1, 4, 4, ([] : List (S63))⟩ : S41) [.int .i64 1, .int .i64 4, .int .i64 4, .slice none 0 0] from (k41_mkM _ _ _ (⟨1, 4, 4, ([] : List (S63))⟩ : S41) (Kd.R_nil _ _ _ _ _))) (Reps.none _ _)))); intro v285 w78 ho79 hb hg_ hnew_; clear hg_ hnew_; (first | rw [← Ny284.out] at ho79 | (simp only [Int.reduceToNat] at ho79; rw [← Ny284.out] at ho79)); have n0_ := Aside0.mk (Kd.S_elder' (by (with_reducible repeat (first | apply Kd.S_alloc | apply Kd.S_drewN | apply Kd.S_drew)); exact (Kd.S_mono (Kd.S_far (p := ⟨gb283, 1, none⟩) (Kd.S_far (p := ⟨gb283, 0, none⟩) (Kd.S_types HO275.out BK283.out (by decide)) (fun _ hk => hk.2) (.int .i64 t280)) (fun _ hk => hk.2) (.int .i64 t281)) (fun _ h_ => h_.1))) (Kd.S_base ho79) hb); have n1_ := Aside0.mk (Kd.S_lower (Kd.S_new' ho79 (Kd.S_lt (by (with_reducible repeat (first | apply Kd.S_alloc | apply Kd.S_drewN | apply Kd.S_drew)); exact (Kd.S_mono (Kd.S_far (p := ⟨gb283, 1, none⟩) (Kd.S_far (p := ⟨gb283, 0, none⟩) (Kd.S_types HO275.out BK283.out (by decide)) (fun _ hk => hk.2) (.int .i64 t280)) (fun _ hk => hk.2) (.int .i64 t281)) (fun _ h_ => h_.1))))) (below_size (by repeat (first | (with_reducible first | exact HB.out | apply below_alloc | apply pw_below_drewN | apply below_drew1 | refine below_set ?_ GE279.out | refine below_set ?_ GE283.out) | exact HB.out)))); have n2_ := Aside0.mk (blk_below (g := gb279) (o := .cells #[.int .i64 t276, .int .i64 t277] 24 (0, 0)) (by (with_reducible repeat (first | refine blk_drewN ?_ _ | refine blk_drew ?_ | refine blk_alloc ?_ _)); refine blk_far ?_ NB279_283.out _; (with_reducible repeat (first | refine blk_drewN ?_ _ | refine blk_drew ?_ | refine blk_alloc ?_ _)); refine blk_far ?_ NB279_283.out _; (with_reducible repeat (first | refine blk_drewN ?_ _ | refine blk_drew ?_ | refine blk_alloc ?_ _)); exact BK279.out) hb); have n3_ := Aside0.mk (blk_below (g := gb283) (o := .cells #[.int .i64 t280, .int .i64 t281] 24 (0, 0)) (by (with_reducible repeat (first | refine blk_drewN ?_ _ | refine blk_drew ?_ | refine blk_alloc ?_ _)); refine blk_put (cs := #[.int .i64 t280, .int .i64 0]) ?_ 1 _ rfl; (with_reducible repeat (first | refine blk_drewN ?_ _ | refine blk_drew ?_ | refine blk_alloc ?_ _)); refine blk_put (cs := #[.int .i64 0, .int .i64 0]) ?_ 0 _ rfl; (with_reducible repeat (first | refine blk_drewN ?_ _ | refine blk_drew ?_ | refine blk_alloc ?_ _)); exact BK283.out) hb); have n4_ := Aside0.mk (below_step (by repeat (first | (with_reducible first | exact HB.out | apply below_alloc | apply pw_below_drewN | apply below_drew1 | refine below_set ?_ GE279.out | refine below_set ?_ GE283.out) | exact HB.out)) hb); clear HO275; clear BK279; clear BK283; clear HB; have HO275 := n0_; have HO286 := n1_; have BK279 := n2_; have BK283 := n3_; have HB := n4_; clear n0_ n1_ n2_ n3_ n4_; clear hb ho79; obtain ⟨Ao80, co80, eo80⟩ := Kd.S_slice HO286.out; subst eo80) | ((with_reducible refine gate_callee (f := 20) rfl ?_); refine goesL_ (some 24) rfl rfl Try.func20 (by kernel_rfl) rfl #[.slice Ao80 y284.length co80, .int .i64 2] rfl (by (try simp only [List.map_toArray, List.map_cons, List.map_nil]); first | done | rfl | (simp only [List.length_drop, List.length_take]; rfl)) ?_; (with_reducible refine (face_Least.calls _ _ y284 2 t287 t288 t289 _ ?side1 ?side2 A3.out).mono ?_); (case side1 => repeat (first | exact (Kd.S_reads' HO286.out).2.2 | (with_reducible refine Kd.C_alloc ?_ _) | (with_reducible refine Kd.C_drewN ?_ _) | (with_reducible refine Kd.C_drew ?_))); (case side2 => exact (Kd.S_reads' HO286.out).2.1); rintro e w81 ⟨rfl, hb⟩; refine ⟨_, rfl, ?_⟩; have n0_ := Aside0.mk (Kd.S_below (by (with_reducible repeat (first | apply Kd.S_alloc | apply Kd.S_drewN | apply Kd.S_drew)); exact HO275.out) hb); have n1_ := Aside0.mk (Kd.S_below (by (with_reducible repeat (first | apply Kd.S_alloc | apply Kd.S_drewN | apply Kd.S_drew)); exact HO286.out) hb); have n2_ := Aside0.mk (blk_below (g := gb279) (o := .cells #[.int .i64 t276, .int .i64 t277] 24 (0, 0)) (by (with_reducible repeat (first | refine blk_drewN ?_ _ | refine blk_drew ?_ | refine blk_alloc ?_ _)); exact BK279.out) hb); have n3_ := Aside0.mk (blk_below (g := gb283) (o := .cells #[.int .i64 t280, .int .i64 t281] 24 (0, 0)) (by (with_reducible repeat (first | refine blk_drewN ?_ _ | refine blk_drew ?_ | refine blk_alloc ?_ _)); exact BK283.out) hb); have n4_ := Aside0.mk (below_step (by repeat (first | (with_reducible first | exact HB.out | apply below_alloc | apply pw_below_drewN | apply below_drew1 | refine below_set ?_ GE279.out | refine below_set ?_ GE283.out) | exact HB.out)) hb); clear HO275; clear HO286; clear BK279; clear BK283; clear HB; have HO275 := n0_; have HO286 := n1_; have BK279 := n2_; have BK283 := n3_; have HB := n4_; clear n0_ n1_ n2_ n3_ n4_; (try clear hb); (try clear hb2); (try clear hk); (try clear hi)) | ((with_reducible refine gate_dst (N := 6) rfl ?_); refine box_event ?hg (N := 6) ?hd (cs := #[.int .i64 0, .int .i64 0]) (t := 24) ?hr ?_; (case hd => rfl); (case hg => rfl); (case hr => first | (go_simp; done) | (go_simp; rfl)); intro gb290 hg w82 hbox hb; have n0_ := Aside0.mk (Kd.S_below (by (with_reducible repeat (first | apply Kd.S_alloc | apply Kd.S_drewN | apply Kd.S_drew)); exact HO275.out) hb); have n1_ := Aside0.mk (Kd.S_below (by (with_reducible repeat (first | apply Kd.S_alloc | apply Kd.S_drewN | apply Kd.S_drew)); exact HO286.out) hb); have n2_ := Aside0.mk (blk_below (g := gb279) (o := .cells #[.int .i64 t276, .int .i64 t277] 24 (0, 0)) (by (with_reducible repeat (first | refine blk_drewN ?_ _ | refine blk_drew ?_ | refine blk_alloc ?_ _)); exact BK279.out) hb); have n3_ := Aside0.mk (blk_below (g := gb283) (o := .cells #[.int .i64 t280, .int .i64 t281] 24 (0, 0)) (by (with_reducible repeat (first | refine blk_drewN ?_ _ | refine blk_drew ?_ | refine blk_alloc ?_ _)); exact BK283.out) hb); have n4_ := Aside0.mk (below_step (by repeat (first | (with_reducible first | exact HB.out | apply below_alloc | apply pw_below_drewN | apply below_drew1 | refine below_set ?_ GE279.out | refine below_set ?_ GE283.out) | exact HB.out)) hb); have n5_ := Aside0.mk (hbox); have n6_ := Aside0.mk ((by rw [hg]; exact (below_size (by repeat (first | (with_reducible first | exact HB.out | apply below_alloc | apply pw_below_drewN | apply below_drew1 | refine below_set ?_ GE279.out | refine below_set ?_ GE283.out) | exact HB.out))) : w.heap.size ≤ gb290)); have n7_ := Aside0.mk ((by rw [hg]; exact (below_size (by repeat (first | (with_reducible first | exact HB.out | apply below_alloc | apply pw_below_drewN | apply below_drew1 | refine below_set ?_ GE279.out | refine below_set ?_ GE283.out) | exact HB.out))) : w.heap.size ≤ gb290)); have n8_ := Aside0.mk ((by rw [hg]; exact Nat.ne_of_lt (blk_lt (g := gb279) (o := .cells #[.int .i64 t276, .int .i64 t277] 24 (0, 0)) (by (with_reducible repeat (first | refine blk_drewN ?_ _ | refine blk_drew ?_ | refine blk_alloc ?_ _)); exact BK279.out)) : gb279 ≠ gb290)); have n9_ := Aside0.mk ((by rw [hg]; exact Nat.ne_of_gt (blk_lt (g := gb279) (o := .cells #[.int .i64 t276, .int .i64 t277] 24 (0, 0)) (by (with_reducible repeat (first | refine blk_drewN ?_ _ | refine blk_drew ?_ | refine blk_alloc ?_ _)); exact BK279.out)) : gb290 ≠ gb279)); have n10_ := Aside0.mk ((by rw [hg]; exact Nat.ne_of_lt (blk_lt (g := gb283) (o := .cells #[.int .i64 t280, .int .i64 t281] 24 (0, 0)) (by (with_reducible repeat (first | refine blk_drewN ?_ _ | refine blk_drew ?_ | refine blk_alloc ?_ _)); exact BK283.out)) : gb283 ≠ gb290)); have n11_ := Aside0.mk ((by rw [hg]; exact Nat.ne_of_gt (blk_lt (g := gb283) (o := .cells #[.int .i64 t280, .int .i64 t281] 24 (0, 0)) (by (with_reducible repeat (first | refine blk_drewN ?_ _ | refine blk_drew ?_ | refine blk_alloc ?_ _)); exact BK283.out)) : gb290 ≠ gb283)); clear HO275; clear HO286; clear BK279; clear BK283; clear HB; have HO275 := n0_; have HO286 := n1_; have BK279 := n2_; have BK283 := n3_; have HB := n4_; have BK290 := n5_; have GW290 := n6_; have GE290 := n7_; have NB279_290 := n8_; have NB290_279 := n9_; have NB283_290 := n10_; have NB290_283 := n11_; clear n0_ n1_ n2_ n3_ n4_ n5_ n6_ n7_ n8_ n9_ n10_ n11_; clear hb hbox hg; have hnb83 := NB290_279.out; have hnc83 := NB279_290.out; have hnb84 := NB290_283.out; have hnc84 := NB283_290.out; have hcz85_0 : w82.cell? ⟨gb290, 0, none⟩ = some (.int .i64 0) := (blk_cell BK290.out 0).trans rfl; have hcz85_1 : w82.cell? ⟨gb290, 1, none⟩ = some (.int .i64 0) := (blk_cell BK290.out 1).trans rfl; have hfz85_0 := blk_frozen BK290.out 0; have hfz85_1 := blk_frozen BK290.out 1; have hcz86_0 : w82.cell? ⟨gb279, 0, none⟩ = some (.int .i64 t276) := (blk_cell BK279.out 0).trans rfl; have hcz86_1 : w82.cell? ⟨gb279, 1, none⟩ = some (.int .i64 t277) := (blk_cell BK279.out 1).trans rfl; have hfz86_0 := blk_frozen BK279.out 0; have hfz86_1 := blk_frozen BK279.out 1))
   go_ret
   exact ⟨by first | rfl | (simp [errW_none, errW_some] <;> rfl) | (simp [*, errW_none, errW_some] <;> rfl), by repeat (first | (with_reducible first | exact HB.out | apply below_alloc | apply pw_below_drewN | apply below_drew1 | refine below_set ?_ GE279.out | refine below_set ?_ GE283.out | refine below_set ?_ GE290.out) | exact HB.out)⟩
 ·rw [if_neg c4] at H
  have c4b0 : (t276 == 2 && (t277 == 1)) = false := by simpa using c4
  (try (have c4b1 : decide (t276 = 2 && (t277 == 1)) = false := by simpa using c4))
  (try (have c4b2 : (t276 == 2 && (t277 == 1)) = false := by simpa using c4))
  (try (have c4b3 : ¬ (t276 = 2 && (t277 == 1)) := by simpa using c4))
  clear c4
  obtain rfl := Option.some.inj H
  go_enter Try.func19, Try.ntmps19
  go_wp2_with (first | ((with_reducible refine gate_dst (N := 9) rfl ?_); refine Kd.S_lit k41 _ 41 ?hg (N := 9) ?hd (xs := ([(⟨1, 4, 4, ([] : List (S63))⟩ : S41)] : List (S41))) (inner := [.int .i64 1, .int .i64 4, .int .i64 4, .slice none 0 0]) (ok := fun _ => True) (okp := fun _ => True) ?hr ?hp (fun _ hk => hk) trivial (Below.refl _ _) (Nat.le_refl _) (by simp) ?_; (case hd => rfl); (case hg => rfl); (case hr => first | (go_simp; done) | (go_simp; rfl)); (case hp => exact (Reps.c4 (show Kd.M k41 _ _ _ (⟨1, 4, 4, ([] : List (S63))⟩ : S41) [.int .i64 1, .int .i64 4, .int .i64 4, .slice none 0 0] from (k41_mkM _ _ _ (⟨1, 4, 4, ([] : List (S63))⟩ : S41) (Kd.R_nil _ _ _ _ _))) (Reps.none _ _))); intro v274 w87 ho88 hb hg_ hnew_; clear hg_ hnew_; (first | rw [← Ny273.out] at ho88 | (simp only [Int.reduceToNat] at ho88; rw [← Ny273.out] at ho88)); have n0_ := Aside0.mk (Kd.S_lower ho88 (below_size (by repeat (first | (with_reducible first | exact HB.out | apply below_alloc | apply pw_below_drewN | apply below_drew1) | exact HB.out)))); have n1_ := Aside0.mk (below_step (by repeat (first | (with_reducible first | exact HB.out | apply below_alloc | apply pw_below_drewN | apply below_drew1) | exact HB.out)) hb); clear HB; have HO275 := n0_; have HB := n1_; clear n0_ n1_; clear hb ho88; obtain ⟨Ao89, co89, eo89⟩ := Kd.S_slice HO275.out; subst eo89) | ((with_reducible refine gate_callee (f := 20) rfl ?_); refine goesL_ (some 12) rfl rfl Try.func20 (by kernel_rfl) rfl #[.slice Ao89 y273.length co89, .int .i64 2] rfl (by (try simp only [List.map_toArray, List.map_cons, List.map_nil]); first | done | rfl | (simp only [List.length_drop, List.length_take]; rfl)) ?_; (with_reducible refine (face_Least.calls _ _ y273 2 t276 t277 t278 _ ?side1 ?side2 A1.out).mono ?_); (case side1 => repeat (first | exact (Kd.S_reads' HO275.out).2.2 | (with_reducible refine Kd.C_alloc ?_ _) | (with_reducible refine Kd.C_drewN ?_ _) | (with_reducible refine Kd.C_drew ?_))); (case side2 => exact (Kd.S_reads' HO275.out).2.1); rintro e w90 ⟨rfl, hb⟩; refine ⟨_, rfl, ?_⟩; have n0_ := Aside0.mk (Kd.S_below (by (with_reducible repeat (first | apply Kd.S_alloc | apply Kd.S_drewN | apply Kd.S_drew)); exact HO275.out) hb); have n1_ := Aside0.mk (below_step (by repeat (first | (with_reducible first | exact HB.out | apply below_alloc | apply pw_below_drewN | apply below_drew1) | exact HB.out)) hb); clear HO275; clear HB; have HO275 := n0_; have HB := n1_; clear n0_ n1_; (try clear hb); (try clear hb2); (try clear hk); (try clear hi)) | ((with_reducible refine gate_dst (N := 2) rfl ?_); refine box_event ?hg (N := 2) ?hd (cs := #[.int .i64 0, .int .i64 0]) (t := 24) ?hr ?_; (case hd => rfl); (case hg => rfl); (case hr => first | (go_simp; done) | (go_simp; rfl)); intro gb279 hg w91 hbox hb; have n0_ := Aside0.mk (Kd.S_below (by (with_reducible repeat (first | apply Kd.S_alloc | apply Kd.S_drewN | apply Kd.S_drew)); exact HO275.out) hb); have n1_ := Aside0.mk (below_step (by repeat (first | (with_reducible first | exact HB.out | apply below_alloc | apply pw_below_drewN | apply below_drew1) | exact HB.out)) hb); have n2_ := Aside0.mk (hbox); have n3_ := Aside0.mk ((by rw [hg]; exact (below_size (by repeat (first | (with_reducible first | exact HB.out | apply below_alloc | apply pw_below_drewN | apply below_drew1) | exact HB.out))) : w.heap.size ≤ gb279)); have n4_ := Aside0.mk ((by rw [hg]; exact (below_size (by repeat (first | (with_reducible first | exact HB.out | apply below_alloc | apply pw_below_drewN | apply below_drew1) | exact HB.out))) : w.heap.size ≤ gb279)); clear HO275; clear HB; have HO275 := n0_; have HB := n1_; have BK279 := n2_; have GW279 := n3_; have GE279 := n4_; clear n0_ n1_ n2_ n3_ n4_; clear hb hbox hg; have hcz92_0 : w91.cell? ⟨gb279, 0, none⟩ = some (.int .i64 0) := (blk_cell BK279.out 0).trans rfl; have hcz92_1 : w91.cell? ⟨gb279, 1, none⟩ = some (.int .i64 0) := (blk_cell BK279.out 1).trans rfl; have hfz92_0 := blk_frozen BK279.out 0; have hfz92_1 := blk_frozen BK279.out 1) | ((with_reducible refine gate_callee (f := 20) rfl ?_); refine goesL_ (some 17) rfl rfl Try.func20 (by kernel_rfl) rfl #[.slice Ao89 y273.length co89, .int .i64 4] rfl (by (try simp only [List.map_toArray, List.map_cons, List.map_nil]); first | done | rfl | (simp only [List.length_drop, List.length_take]; rfl)) ?_; (with_reducible refine (face_Least.calls _ _ y273 4 t280 t281 t282 _ ?side1 ?side2 A2.out).mono ?_); (case side1 => refine (Kd.S_reads' (e := 41) (base := w.heap.size) (ok := fun k_ => True) (n := y273.length) (c := co89) ?_).2.2; exact (by (with_reducible repeat (first | apply Kd.S_alloc | apply Kd.S_drewN | apply Kd.S_drew)); exact (Kd.S_mono (Kd.S_far (p := ⟨gb279, 1, none⟩) (Kd.S_far (p := ⟨gb279, 0, none⟩) (Kd.S_types HO275.out BK279.out (by decide)) (fun _ hk => hk.2) (.int .i64 t276)) (fun _ hk => hk.2) (.int .i64 t277)) (fun _ h_ => h_.1)))); (case side2 => exact (Kd.S_reads' HO275.out).2.1); rintro e w93 ⟨rfl, hb⟩; refine ⟨_, rfl, ?_⟩; have n0_ := Aside0.mk (Kd.S_below (by (with_reducible repeat (first | apply Kd.S_alloc | apply Kd.S_drewN | apply Kd.S_drew)); exact (Kd.S_mono (Kd.S_far (p := ⟨gb279, 1, none⟩) (Kd.S_far (p := ⟨gb279, 0, none⟩) (Kd.S_types HO275.out BK279.out (by decide)) (fun _ hk => hk.2) (.int .i64 t276)) (fun _ hk => hk.2) (.int .i64 t277)) (fun _ h_ => h_.1))) hb); have n1_ := Aside0.mk (blk_below (g := gb279) (o := .cells #[.int .i64 t276, .int .i64 t277] 24 (0, 0)) (by (with_reducible repeat (first | refine blk_drewN ?_ _ | refine blk_drew ?_ | refine blk_alloc ?_ _)); refine blk_put (cs := #[.int .i64 t276, .int .i64 0]) ?_ 1 _ rfl; (with_reducible repeat (first | refine blk_drewN ?_ _ | refine blk_drew ?_ | refine blk_alloc ?_ _)); refine blk_put (cs := #[.int .i64 0, .int .i64 0]) ?_ 0 _ rfl; (with_reducible repeat (first | refine blk_drewN ?_ _ | refine blk_drew ?_ | refine blk_alloc ?_ _)); exact BK279.out) hb); have n2_ := Aside0.mk (below_step (by repeat (first | (with_reducible first | exact HB.out | apply below_alloc | apply pw_below_drewN | apply below_drew1 | refine below_set ?_ GE279.out) | exact HB.out)) hb); clear HO275; clear BK279; clear HB; have HO275 := n0_; have BK279 := n1_; have HB := n2_; clear n0_ n1_ n2_; (try clear hb); (try clear hb2); (try clear hk); (try clear hi)) | ((with_reducible refine gate_dst (N := 4) rfl ?_); refine box_event ?hg (N := 4) ?hd (cs := #[.int .i64 0, .int .i64 0]) (t := 24) ?hr ?_; (case hd => rfl); (case hg => rfl); (case hr => first | (go_simp; done) | (go_simp; rfl)); intro gb283 hg w94 hbox hb; have n0_ := Aside0.mk (Kd.S_below (by (with_reducible repeat (first | apply Kd.S_alloc | apply Kd.S_drewN | apply Kd.S_drew)); exact HO275.out) hb); have n1_ := Aside0.mk (blk_below (g := gb279) (o := .cells #[.int .i64 t276, .int .i64 t277] 24 (0, 0)) (by (with_reducible repeat (first | refine blk_drewN ?_ _ | refine blk_drew ?_ | refine blk_alloc ?_ _)); exact BK279.out) hb); have n2_ := Aside0.mk (below_step (by repeat (first | (with_reducible first | exact HB.out | apply below_alloc | apply pw_below_drewN | apply below_drew1 | refine below_set ?_ GE279.out) | exact HB.out)) hb); have n3_ := Aside0.mk (hbox); have n4_ := Aside0.mk ((by rw [hg]; exact (below_size (by repeat (first | (with_reducible first | exact HB.out | apply below_alloc | apply pw_below_drewN | apply below_drew1 | refine below_set ?_ GE279.out) | exact HB.out))) : w.heap.size ≤ gb283)); have n5_ := Aside0.mk ((by rw [hg]; exact (below_size (by repeat (first | (with_reducible first | exact HB.out | apply below_alloc | apply pw_below_drewN | apply below_drew1 | refine below_set ?_ GE279.out) | exact HB.out))) : w.heap.size ≤ gb283)); have n6_ := Aside0.mk ((by rw [hg]; exact Nat.ne_of_lt (blk_lt (g := gb279) (o := .cells #[.int .i64 t276, .int .i64 t277] 24 (0, 0)) (by (with_reducible repeat (first | refine blk_drewN ?_ _ | refine blk_drew ?_ | refine blk_alloc ?_ _)); exact BK279.out)) : gb279 ≠ gb283)); have n7_ := Aside0.mk ((by rw [hg]; exact Nat.ne_of_gt (blk_lt (g := gb279) (o := .cells #[.int .i64 t276, .int .i64 t277] 24 (0, 0)) (by (with_reducible repeat (first | refine blk_drewN ?_ _ | refine blk_drew ?_ | refine blk_alloc ?_ _)); exact BK279.out)) : gb283 ≠ gb279)); clear HO275; clear BK279; clear HB; have HO275 := n0_; have BK279 := n1_; have HB := n2_; have BK283 := n3_; have GW283 := n4_; have GE283 := n5_; have NB279_283 := n6_; have NB283_279 := n7_; clear n0_ n1_ n2_ n3_ n4_ n5_ n6_ n7_; clear hb hbox hg; have hnb95 := NB283_279.out; have hnc95 := NB279_283.out; have hcz96_0 : w94.cell? ⟨gb283, 0, none⟩ = some (.int .i64 0) := (blk_cell BK283.out 0).trans rfl; have hcz96_1 : w94.cell? ⟨gb283, 1, none⟩ = some (.int .i64 0) := (blk_cell BK283.out 1).trans rfl; have hfz96_0 := blk_frozen BK283.out 0; have hfz96_1 := blk_frozen BK283.out 1) | ((with_reducible refine gate_dst (N := 23) rfl ?_); refine Kd.S_lit k41 _ 41 ?hg (N := 23) ?hd (xs := ([(⟨4, 4, 4, ([] : List (S63))⟩ : S41), (⟨1, 4, 4, ([] : List (S63))⟩ : S41)] : List (S41))) (inner := [.int .i64 4, .int .i64 4, .int .i64 4, .slice none 0 0, .int .i64 1, .int .i64 4, .int .i64 4, .slice none 0 0]) (ok := fun _ => True) (okp := fun _ => True) ?hr ?hp (fun _ hk => hk) trivial (Below.refl _ _) (Nat.le_refl _) (by simp) ?_; (case hd => rfl); (case hg => rfl); (case hr => first | (go_simp; done) | (go_simp; rfl)); (case hp => exact (Reps.c4 (show Kd.M k41 _ _ _ (⟨4, 4, 4, ([] : List (S63))⟩ : S41) [.int .i64 4, .int .i64 4, .int .i64 4, .slice none 0 0] from (k41_mkM _ _ _ (⟨4, 4, 4, ([] : List (S63))⟩ : S41) (Kd.R_nil _ _ _ _ _))) (Reps.c4 (show Kd.M k41 _ _ _ (⟨1, 4, 4, ([] : List (S63))⟩ : S41) [.int .i64 1, .int .i64 4, .int .i64 4, .slice none 0 0] from (k41_mkM _ _ _ (⟨1, 4, 4, ([] : List (S63))⟩ : S41) (Kd.R_nil _ _ _ _ _))) (Reps.none _ _)))); intro v285 w97 ho98 hb hg_ hnew_; clear hg_ hnew_; (first | rw [← Ny284.out] at ho98 | (simp only [Int.reduceToNat] at ho98; rw [← Ny284.out] at ho98)); have n0_ := Aside0.mk (Kd.S_elder' (by (with_reducible repeat (first | apply Kd.S_alloc | apply Kd.S_drewN | apply Kd.S_drew)); exact (Kd.S_mono (Kd.S_far (p := ⟨gb283, 1, none⟩) (Kd.S_far (p := ⟨gb283, 0, none⟩) (Kd.S_types HO275.out BK283.out (by decide)) (fun _ hk => hk.2) (.int .i64 t280)) (fun _ hk => hk.2) (.int .i64 t281)) (fun _ h_ => h_.1))) (Kd.S_base ho98) hb); have n1_ := Aside0.mk (Kd.S_lower (Kd.S_new' ho98 (Kd.S_lt (by (with_reducible repeat (first | apply Kd.S_alloc | apply Kd.S_drewN | apply Kd.S_drew)); exact (Kd.S_mono (Kd.S_far (p := ⟨gb283, 1, none⟩) (Kd.S_far (p := ⟨gb283, 0, none⟩) (Kd.S_types HO275.out BK283.out (by decide)) (fun _ hk => hk.2) (.int .i64 t280)) (fun _ hk => hk.2) (.int .i64 t281)) (fun _ h_ => h_.1))))) (below_size (by repeat (first | (with_reducible first | exact HB.out | apply below_alloc | apply pw_below_drewN | apply below_drew1 | refine below_set ?_ GE279.out | refine below_set ?_ GE283.out) | exact HB.out)))); have n2_ := Aside0.mk (blk_below (g := gb279) (o := .cells #[.int .i64 t276, .int .i64 t277] 24 (0, 0)) (by (with_reducible repeat (first | refine blk_drewN ?_ _ | refine blk_drew ?_ | refine blk_alloc ?_ _)); refine blk_far ?_ NB279_283.out _; (with_reducible repeat (first | refine blk_drewN ?_ _ | refine blk_drew ?_ | refine blk_alloc ?_ _)); refine blk_far ?_ NB279_283.out _; (with_reducible repeat (first | refine blk_drewN ?_ _ | refine blk_drew ?_ | refine blk_alloc ?_ _)); exact BK279.out) hb); have n3_ := Aside0.mk (blk_below (g := gb283) (o := .cells #[.int .i64 t280, .int .i64 t281] 24 (0, 0)) (by (with_reducible repeat (first | refine blk_drewN ?_ _ | refine blk_drew ?_ | refine blk_alloc ?_ _)); refine blk_put (cs := #[.int .i64 t280, .int .i64 0]) ?_ 1 _ rfl; (with_reducible repeat (first | refine blk_drewN ?_ _ | refine blk_drew ?_ | refine blk_alloc ?_ _)); refine blk_put (cs := #[.int .i64 0, .int .i64 0]) ?_ 0 _ rfl; (with_reducible repeat (first | refine blk_drewN ?_ _ | refine blk_drew ?_ | refine blk_alloc ?_ _)); exact BK283.out) hb); have n4_ := Aside0.mk (below_step (by repeat (first | (with_reducible first | exact HB.out | apply below_alloc | apply pw_below_drewN | apply below_drew1 | refine below_set ?_ GE279.out | refine below_set ?_ GE283.out) | exact HB.out)) hb); clear HO275; clear BK279; clear BK283; clear HB; have HO275 := n0_; have HO286 := n1_; have BK279 := n2_; have BK283 := n3_; have HB := n4_; clear n0_ n1_ n2_ n3_ n4_; clear hb ho98; obtain ⟨Ao99, co99, eo99⟩ := Kd.S_slice HO286.out; subst eo99) | ((with_reducible refine gate_callee (f := 20) rfl ?_); refine goesL_ (some 24) rfl rfl Try.func20 (by kernel_rfl) rfl #[.slice Ao99 y284.length co99, .int .i64 2] rfl (by (try simp only [List.map_toArray, List.map_cons, List.map_nil]); first | done | rfl | (simp only [List.length_drop, List.length_take]; rfl)) ?_; (with_reducible refine (face_Least.calls _ _ y284 2 t287 t288 t289 _ ?side1 ?side2 A3.out).mono ?_); (case side1 => repeat (first | exact (Kd.S_reads' HO286.out).2.2 | (with_reducible refine Kd.C_alloc ?_ _) | (with_reducible refine Kd.C_drewN ?_ _) | (with_reducible refine Kd.C_drew ?_))); (case side2 => exact (Kd.S_reads' HO286.out).2.1); rintro e w100 ⟨rfl, hb⟩; refine ⟨_, rfl, ?_⟩; have n0_ := Aside0.mk (Kd.S_below (by (with_reducible repeat (first | apply Kd.S_alloc | apply Kd.S_drewN | apply Kd.S_drew)); exact HO275.out) hb); have n1_ := Aside0.mk (Kd.S_below (by (with_reducible repeat (first | apply Kd.S_alloc | apply Kd.S_drewN | apply Kd.S_drew)); exact HO286.out) hb); have n2_ := Aside0.mk (blk_below (g := gb279) (o := .cells #[.int .i64 t276, .int .i64 t277] 24 (0, 0)) (by (with_reducible repeat (first | refine blk_drewN ?_ _ | refine blk_drew ?_ | refine blk_alloc ?_ _)); exact BK279.out) hb); have n3_ := Aside0.mk (blk_below (g := gb283) (o := .cells #[.int .i64 t280, .int .i64 t281] 24 (0, 0)) (by (with_reducible repeat (first | refine blk_drewN ?_ _ | refine blk_drew ?_ | refine blk_alloc ?_ _)); exact BK283.out) hb); have n4_ := Aside0.mk (below_step (by repeat (first | (with_reducible first | exact HB.out | apply below_alloc | apply pw_below_drewN | apply below_drew1 | refine below_set ?_ GE279.out | refine below_set ?_ GE283.out) | exact HB.out)) hb); clear HO275; clear HO286; clear BK279; clear BK283; clear HB; have HO275 := n0_; have HO286 := n1_; have BK279 := n2_; have BK283 := n3_; have HB := n4_; clear n0_ n1_ n2_ n3_ n4_; (try clear hb); (try clear hb2); (try clear hk); (try clear hi)) | ((with_reducible refine gate_dst (N := 6) rfl ?_); refine box_event ?hg (N := 6) ?hd (cs := #[.int .i64 0, .int .i64 0]) (t := 24) ?hr ?_; (case hd => rfl); (case hg => rfl); (case hr => first | (go_simp; done) | (go_simp; rfl)); intro gb290 hg w101 hbox hb; have n0_ := Aside0.mk (Kd.S_below (by (with_reducible repeat (first | apply Kd.S_alloc | apply Kd.S_drewN | apply Kd.S_drew)); exact HO275.out) hb); have n1_ := Aside0.mk (Kd.S_below (by (with_reducible repeat (first | apply Kd.S_alloc | apply Kd.S_drewN | apply Kd.S_drew)); exact HO286.out) hb); have n2_ := Aside0.mk (blk_below (g := gb279) (o := .cells #[.int .i64 t276, .int .i64 t277] 24 (0, 0)) (by (with_reducible repeat (first | refine blk_drewN ?_ _ | refine blk_drew ?_ | refine blk_alloc ?_ _)); exact BK279.out) hb); have n3_ := Aside0.mk (blk_below (g := gb283) (o := .cells #[.int .i64 t280, .int .i64 t281] 24 (0, 0)) (by (with_reducible repeat (first | refine blk_drewN ?_ _ | refine blk_drew ?_ | refine blk_alloc ?_ _)); exact BK283.out) hb); have n4_ := Aside0.mk (below_step (by repeat (first | (with_reducible first | exact HB.out | apply below_alloc | apply pw_below_drewN | apply below_drew1 | refine below_set ?_ GE279.out | refine below_set ?_ GE283.out) | exact HB.out)) hb); have n5_ := Aside0.mk (hbox); have n6_ := Aside0.mk ((by rw [hg]; exact (below_size (by repeat (first | (with_reducible first | exact HB.out | apply below_alloc | apply pw_below_drewN | apply below_drew1 | refine below_set ?_ GE279.out | refine below_set ?_ GE283.out) | exact HB.out))) : w.heap.size ≤ gb290)); have n7_ := Aside0.mk ((by rw [hg]; exact (below_size (by repeat (first | (with_reducible first | exact HB.out | apply below_alloc | apply pw_below_drewN | apply below_drew1 | refine below_set ?_ GE279.out | refine below_set ?_ GE283.out) | exact HB.out))) : w.heap.size ≤ gb290)); have n8_ := Aside0.mk ((by rw [hg]; exact Nat.ne_of_lt (blk_lt (g := gb279) (o := .cells #[.int .i64 t276, .int .i64 t277] 24 (0, 0)) (by (with_reducible repeat (first | refine blk_drewN ?_ _ | refine blk_drew ?_ | refine blk_alloc ?_ _)); exact BK279.out)) : gb279 ≠ gb290)); have n9_ := Aside0.mk ((by rw [hg]; exact Nat.ne_of_gt (blk_lt (g := gb279) (o := .cells #[.int .i64 t276, .int .i64 t277] 24 (0, 0)) (by (with_reducible repeat (first | refine blk_drewN ?_ _ | refine blk_drew ?_ | refine blk_alloc ?_ _)); exact BK279.out)) : gb290 ≠ gb279)); have n10_ := Aside0.mk ((by rw [hg]; exact Nat.ne_of_lt (blk_lt (g := gb283) (o := .cells #[.int .i64 t280, .int .i64 t281] 24 (0, 0)) (by (with_reducible repeat (first | refine blk_drewN ?_ _ | refine blk_drew ?_ | refine blk_alloc ?_ _)); exact BK283.out)) : gb283 ≠ gb290)); have n11_ := Aside0.mk ((by rw [hg]; exact Nat.ne_of_gt (blk_lt (g := gb283) (o := .cells #[.int .i64 t280, .int .i64 t281] 24 (0, 0)) (by (with_reducible repeat (first | refine blk_drewN ?_ _ | refine blk_drew ?_ | refine blk_alloc ?_ _)); exact BK283.out)) : gb290 ≠ gb283)); clear HO275; clear HO286; clear BK279; clear BK283; clear HB; have HO275 := n0_; have HO286 := n1_; have BK279 := n2_; have BK283 := n3_; have HB := n4_; have BK290 := n5_; have GW290 := n6_; have GE290 := n7_; have NB279_290 := n8_; have NB290_279 := n9_; have NB283_290 := n10_; have NB290_283 := n11_; clear n0_ n1_ n2_ n3_ n4_ n5_ n6_ n7_ n8_ n9_ n10_ n11_; clear hb hbox hg; have hnb102 := NB290_279.out; have hnc102 := NB279_290.out; have hnb103 := NB290_283.out; have hnc103 := NB283_290.out; have hcz104_0 : w101.cell? ⟨gb290, 0, none⟩ = some (.int .i64 0) := (blk_cell BK290.out 0).trans rfl; have hcz104_1 : w101.cell? ⟨gb290, 1, none⟩ = some (.int .i64 0) := (blk_cell BK290.out 1).trans rfl; have hfz104_0 := blk_frozen BK290.out 0; have hfz104_1 := blk_frozen BK290.out 1; have hcz105_0 : w101.cell? ⟨gb279, 0, none⟩ = some (.int .i64 t276) := (blk_cell BK279.out 0).trans rfl; have hcz105_1 : w101.cell? ⟨gb279, 1, none⟩ = some (.int .i64 t277) := (blk_cell BK279.out 1).trans rfl; have hfz105_0 := blk_frozen BK279.out 0; have hfz105_1 := blk_frozen BK279.out 1))
  go_ret
  exact ⟨by first | rfl | (simp [errW_none, errW_some] <;> rfl) | (simp [*, errW_none, errW_some] <;> rfl), by repeat (first | (with_reducible first | exact HB.out | apply below_alloc | apply pw_below_drewN | apply below_drew1 | refine below_set ?_ GE279.out | refine below_set ?_ GE283.out | refine below_set ?_ GE290.out) | exact HB.out)⟩

/-! ### remontoirref10_Asked: function 45 -/
def remontoirref10_Asked.l0 : Nat → List (S41) → Int → Int → Int → Int → Int → Option (Int × Int)
 | 0, _, _, _, _, _, _ => none
 | k + 1, x0, x2, x8, x9, x292000, x292001 => if x9 < (x0.length : Int) then (if 0 ≤ x9 then (if ((rd_T41 x0 x9).f2) = 0 then (none) else (remontoirref10_Asked.l0 k x0 x2 (wrap64 (x8 + (wrap64 (((rd_T41 x0 x9).f0) * (wrap64 (Int.tdiv x2 ((rd_T41 x0 x9).f2))))))) (wrap64 (x9 + 1)) x292000 x292001)) else (none)) else (if x292000 = 0 then (none) else (some (x8, wrap64 (x292001 * (wrap64 (Int.tdiv x2 x292000))))))
def remontoirref10_Asked.f (k : Nat) (l0 : List (S41)) (a1_0 : Int) (a1_1 : Int) (a2 : Int) : Option (Int × Int) := remontoirref10_Asked.l0 k l0 a2 0 0 a1_0 a1_1
theorem remontoirref10_Asked.mono_l : ∀ k, (∀ y0 y1 y2 y3 y4 y5, LeO (remontoirref10_Asked.l0 k y0 y1 y2 y3 y4 y5) (remontoirref10_Asked.l0 (k + 1) y0 y1 y2 y3 y4 y5))
 | 0 => fun _ _ _ _ _ _ r h => by simp [remontoirref10_Asked.l0] at h
 | k + 1 => by
  have ih0 := remontoirref10_Asked.mono_l k
  ·intro y0 y1 y2 y3 y4 y5
   unfold remontoirref10_Asked.l0
   repeat' first
   | (with_reducible exact ih0 _ _ _ _ _ _)
   | (with_reducible exact LeO.refl _)
   | (with_reducible exact LeO.none _)
   | (with_reducible refine LeO.ite ?_ ?_)
   | (with_reducible refine LeO.bind ?_ (fun _ => ?_))
   | exact ih0 _ _ _ _ _ _
   | exact LeO.none _
   | refine LeO.ite ?_ ?_
   | refine LeO.bind ?_ (fun _ => ?_)
theorem remontoirref10_Asked.mono : ∀ a0 a1 a2 a3 k, LeO (remontoirref10_Asked.f k a0 a1 a2 a3) (remontoirref10_Asked.f (k + 1) a0 a1 a2 a3) := by
 intro a0 a1 a2 a3 k
 have ih0 := remontoirref10_Asked.mono_l k
 unfold remontoirref10_Asked.f
 repeat' first
   | (with_reducible exact ih0 _ _ _ _ _ _)
   | (with_reducible exact LeO.refl _)
   | (with_reducible exact LeO.none _)
   | (with_reducible refine LeO.ite ?_ ?_)
   | (with_reducible refine LeO.bind ?_ (fun _ => ?_))
   | exact ih0 _ _ _ _ _ _
   | exact LeO.none _
   | refine LeO.ite ?_ ?_
   | refine LeO.bind ?_ (fun _ => ?_)
set_option maxHeartbeats 8000000 in
set_option maxRecDepth 100000 in
theorem remontoirref10_Asked.calls (k : Nat) (A0 : Option Addr) (c0 : Nat) (l0 : List (S41)) (a1_0 : Int) (a1_1 : Int) (a2 : Int) (r1 : Int) (r2 : Int) (w : World) (hr0 : Kd.C k41 w A0 l0.length l0) (hc0 : l0.length ≤ c0) (h : remontoirref10_Asked.f k l0 a1_0 a1_1 a2 = some (r1, r2)) :
  Calls Try.prog 45 #[.slice A0 l0.length c0, .agg #[.int .i64 a1_0, .int .i64 a1_1], .int .i64 a2] w fun e w' => e = .returned (.tuple #[.int .i64 r1, .int .i64 r2]) ∧ Below w.heap.size w w' := by
 have hu24 := Try.underlying24
 have HR0 := Aside0.mk hr0
 have HC0 := Aside0.mk hc0
 clear hr0 hc0
 have HB := Aside0.mk (Below.refl w.heap.size w)
 have H : (remontoirref10_Asked.l0 k l0 a2 0 0 a1_0 a1_1) = some (r1, r2) := h
 clear h
 have H' := Aside0.mk H
 clear H
 go_enter Try.func45, Try.ntmps45
 go_wp2_with (first | ((with_reducible refine gate_dst (N := 4) rfl ?_); refine box_event ?hg (N := 4) ?hd (cs := #[.int .i64 a1_0, .int .i64 a1_1]) (t := 24) ?hr ?_; (case hd => rfl); (case hg => rfl); (case hr => first | (go_simp; done) | (go_simp; rfl)); intro gb291 hg w4 hbox hb; have n0_ := Aside0.mk (below_step (by repeat (first | (with_reducible first | exact HB.out | apply below_alloc | apply pw_below_drewN | apply below_drew1) | exact HB.out)) hb); have n1_ := Aside0.mk (hbox); have n2_ := Aside0.mk ((by rw [hg]; exact (below_size (by repeat (first | (with_reducible first | exact HB.out | apply below_alloc | apply pw_below_drewN | apply below_drew1) | exact HB.out))) : w.heap.size ≤ gb291)); have n3_ := Aside0.mk ((by rw [hg]; exact (below_size (by repeat (first | (with_reducible first | exact HB.out | apply below_alloc | apply pw_below_drewN | apply below_drew1) | exact HB.out))) : w.heap.size ≤ gb291)); clear HB; have HB := n0_; have BK291 := n1_; have GW291 := n2_; have GE291 := n3_; clear n0_ n1_ n2_ n3_; clear hb hbox hg))
 repeat (go_quiet (first | ((with_reducible refine gate_dst (N := 4) rfl ?_); refine box_event ?hg (N := 4) ?hd (cs := #[.int .i64 a1_0, .int .i64 a1_1]) (t := 24) ?hr ?_; (case hd => rfl); (case hg => rfl); (case hr => first | (go_simp; done) | (go_simp; rfl)); intro gb291 hg w4 hbox hb; have n0_ := Aside0.mk (below_step (by repeat (first | (with_reducible first | exact HB.out | apply below_alloc | apply pw_below_drewN | apply below_drew1) | exact HB.out)) hb); have n1_ := Aside0.mk (hbox); have n2_ := Aside0.mk ((by rw [hg]; exact (below_size (by repeat (first | (with_reducible first | exact HB.out | apply below_alloc | apply pw_below_drewN | apply below_drew1) | exact HB.out))) : w.heap.size ≤ gb291)); have n3_ := Aside0.mk ((by rw [hg]; exact (below_size (by repeat (first | (with_reducible first | exact HB.out | apply below_alloc | apply pw_below_drewN | apply below_drew1) | exact HB.out))) : w.heap.size ≤ gb291)); clear HB; have HB := n0_; have BK291 := n1_; have GW291 := n2_; have GE291 := n3_; clear n0_ n1_ n2_ n3_; clear hb hbox hg)); try go_wp2_with (first | ((with_reducible refine gate_dst (N := 4) rfl ?_); refine box_event ?hg (N := 4) ?hd (cs := #[.int .i64 a1_0, .int .i64 a1_1]) (t := 24) ?hr ?_; (case hd => rfl); (case hg => rfl); (case hr => first | (go_simp; done) | (go_simp; rfl)); intro gb291 hg w4 hbox hb; have n0_ := Aside0.mk (below_step (by repeat (first | (with_reducible first | exact HB.out | apply below_alloc | apply pw_below_drewN | apply below_drew1) | exact HB.out)) hb); have n1_ := Aside0.mk (hbox); have n2_ := Aside0.mk ((by rw [hg]; exact (below_size (by repeat (first | (with_reducible first | exact HB.out | apply below_alloc | apply pw_below_drewN | apply below_drew1) | exact HB.out))) : w.heap.size ≤ gb291)); have n3_ := Aside0.mk ((by rw [hg]; exact (below_size (by repeat (first | (with_reducible first | exact HB.out | apply below_alloc | apply pw_below_drewN | apply below_drew1) | exact HB.out))) : w.heap.size ≤ gb291)); clear HB; have HB := n0_; have BK291 := n1_; have GW291 := n2_; have GE291 := n3_; clear n0_ n1_ n2_ n3_; clear hb hbox hg)))
 go_loopg [8, 9] k (fun kq v8 v9 w' => ∃ (x8_1 : Int) (x9_1 : Int), v8 = .int .i64 x8_1 ∧ v9 = .int .i64 x9_1 ∧ Aside0 (remontoirref10_Asked.l0 kq l0 a2 x8_1 x9_1 a1_0 a1_1 = some (r1, r2)) ∧ Aside0 (kq ≤ k) ∧ Aside0 (w'.heap[gb291]? = some (.cells #[.int .i64 a1_0, .int .i64 a1_1] 24 (0, 0))) ∧ Aside0 (Below w.heap.size w w'))
 case atStart => exact ⟨(0), (0), (by first | rfl | (simp; done) | (simp [*]; done)), (by first | rfl | (simp; done) | (simp [*]; done)), H', ⟨Nat.le_refl _⟩, ⟨by (with_reducible repeat (first | refine blk_drewN ?_ _ | refine blk_drew ?_ | refine blk_alloc ?_ _)); exact BK291.out⟩, ⟨by repeat (first | (with_reducible first | exact HB.out | apply below_alloc | apply pw_below_drewN | apply below_drew1 | refine below_set ?_ GE291.out) | exact HB.out)⟩⟩
 case round =>
  clear H'
  (try clear p2); (try clear c4)
  obtain ⟨x8_1, x9_1, rfl, rfl, HA, HK1, BK291, HB⟩ := hrel
  cases gk with
  | zero => exact absurd HA.out (by simp [remontoirref10_Asked.l0])
  | succ k1 =>
   have H := HA.out
   clear HA
   simp only [remontoirref10_Asked.l0] at H
   by_cases c5 : x9_1 < (l0.length : Int)
   ·rw [if_pos c5] at H
    have c5b0 : decide (x9_1 < (l0.length : Int)) = true := decide_eq_true c5
    clear c5
    by_cases c6 : 0 ≤ x9_1
    ·rw [if_pos c6] at H
     have c6b0 : decide (0 ≤ x9_1) = true := decide_eq_true c6
     clear c6
     by_cases c7 : ((rd_T41 l0 x9_1).f2) = 0
     ·rw [if_pos c7] at H
      exact absurd H (by simp)
     ·rw [if_neg c7] at H
      have c7b0 : (((rd_T41 l0 x9_1).f2) == 0) = false := beq_eq_false_iff_ne.mpr c7
      have c7b1 : (((rd_T41 l0 x9_1).f2) != 0) = true := bne_iff_ne.mpr c7
      have H' := Aside0.mk H
      clear H
      have p292 : 0 ≤ (x9_1 : Int) := of_decide_eq_true (by first | (with_reducible assumption) | assumption)
      have q292 : x9_1 < (l0.length : Int) := of_decide_eq_true (by first | (with_reducible assumption) | assumption)
      obtain ⟨ad292, A292_3, c292_3, e292, hx292_0, hx292_1, hx292_2, hx292_3, hl292_3, hi292_3⟩ := at_T41 HR0.out x9_1 p292 q292
      cases e292
      replace hx292_0 := (HB.out.cell (World.block_lt_of_cell? w _ hx292_0)).trans hx292_0
      replace hx292_1 := (HB.out.cell (World.block_lt_of_cell? w _ hx292_1)).trans hx292_1
      replace hx292_2 := (HB.out.cell (World.block_lt_of_cell? w _ hx292_2)).trans hx292_2
      replace hx292_3 := (HB.out.cell (World.block_lt_of_cell? w _ hx292_3)).trans hx292_3
      have HR292_3 := Aside0.mk hi292_3
      have HC292_3 := Aside0.mk hl292_3
      clear hi292_3 hl292_3
      replace p292 := eq_true p292
      replace q292 := eq_true q292
      have p293 : 0 ≤ (x9_1 : Int) := of_decide_eq_true (by first | (with_reducible assumption) | assumption)
      have q293 : x9_1 < (l0.length : Int) := of_decide_eq_true (by first | (with_reducible assumption) | assumption)
      obtain ⟨ad293, A293_3, c293_3, e293, hx293_0, hx293_1, hx293_2, hx293_3, hl293_3, hi293_3⟩ := at_T41 HR0.out x9_1 p293 q293
      obtain rfl : ad292 = ad293 := (by injection e293)
      replace hx293_0 := (HB.out.cell (World.block_lt_of_cell? w _ hx293_0)).trans hx293_0
      replace hx293_1 := (HB.out.cell (World.block_lt_of_cell? w _ hx293_1)).trans hx293_1
      replace hx293_2 := (HB.out.cell (World.block_lt_of_cell? w _ hx293_2)).trans hx293_2
      replace hx293_3 := (HB.out.cell (World.block_lt_of_cell? w _ hx293_3)).trans hx293_3
      have HR293_3 := Aside0.mk hi293_3
      have HC293_3 := Aside0.mk hl293_3
      clear hi293_3 hl293_3
      replace p293 := eq_true p293
      replace q293 := eq_true q293
      have ea_ := Option.some.inj (hx292_3.symm.trans hx293_3)
      injection ea_ with ea_ en_ ec_
      subst ea_
      subst ec_
      clear en_
      go_wp2
      repeat (go_quiet (fail); try go_wp2)
      go_roundg k1
      case measure => have := HK1.out; omega
      case rel => exact ⟨(wrap64 (x8_1 + (wrap64 (((rd_T41 l0 x9_1).f0) * (wrap64 (Int.tdiv a2 ((rd_T41 l0 x9_1).f2))))))), (wrap64 (x9_1 + 1)), (by first | rfl | (simp; done) | (simp [*]; done)), (by first | rfl | (simp; done) | (simp [*]; done)), H', ⟨by have := HK1.out; omega⟩, ⟨by (with_reducible repeat (first | refine blk_drewN ?_ _ | refine blk_drew ?_ | refine blk_alloc ?_ _)); exact BK291.out⟩, ⟨by repeat (first | (with_reducible first | exact HB.out | apply below_alloc | apply pw_below_drewN | apply below_drew1 | refine below_set ?_ GE291.out) | exact HB.out)⟩⟩
    ·rw [if_neg c6] at H
     exact absurd H (by simp)
   ·rw [if_neg c5] at H
    have c5b0 : decide (x9_1 < (l0.length : Int)) = false := decide_eq_false c5
    clear c5
    by_cases c8 : a1_0 = 0
    ·rw [if_pos c8] at H
     exact absurd H (by simp)
    ·rw [if_neg c8] at H
     have c8b0 : (a1_0 == 0) = false := beq_eq_false_iff_ne.mpr c8
     have c8b1 : (a1_0 != 0) = true := bne_iff_ne.mpr c8
     simp only [Option.some.injEq, Prod.mk.injEq] at H
     obtain ⟨rfl, rfl⟩ := H
     have hcz9_0 : wr.cell? ⟨gb291, 0, none⟩ = some (.int .i64 a1_0) := (blk_cell BK291.out 0).trans rfl
     have hcz9_1 : wr.cell? ⟨gb291, 1, none⟩ = some (.int .i64 a1_1) := (blk_cell BK291.out 1).trans rfl
     have hfz9_0 := blk_frozen BK291.out 0
     have hfz9_1 := blk_frozen BK291.out 1
     go_wp2
     repeat (go_quiet (fail); try go_wp2)
     go_ret2
     exact ⟨by first | rfl | (simp [errW_none, errW_some] <;> rfl) | (simp [*, errW_none, errW_some] <;> rfl), by repeat (first | (with_reducible first | exact HB.out | apply below_alloc | apply pw_below_drewN | apply below_drew1 | refine below_set ?_ GE291.out) | exact HB.out)⟩

/-! ### remontoirref07_Bound: function 54 -/
mutual
def remontoirref07_Bound.l0 : Nat → List (S41) → Int → Int → Int → Option (Int)
 | 0, _, _, _, _ => none
 | k + 1, x0, x1, x5, x6 => if x6 < (x0.length : Int) then (if 0 ≤ x6 then (remontoirref07_Bound.l1 k x0 x1 x5 x6 ((rd_T41 x0 x6).f1)) else (none)) else (some x5)
def remontoirref07_Bound.l1 : Nat → List (S41) → Int → Int → Int → Int → Option (Int)
 | 0, _, _, _, _, _ => none
 | k + 1, x0, x1, x5, x6, x7 => if x7 ≤ x1 then (if 0 ≤ x6 then (if x6 < (x0.length : Int) then (remontoirref07_Bound.l1 k x0 x1 (wrap64 (x5 + ((rd_T41 x0 x6).f0))) x6 (wrap64 (x7 + ((rd_T41 x0 x6).f2)))) else (none)) else (none)) else (remontoirref07_Bound.l0 k x0 x1 x5 (wrap64 (x6 + 1)))
end
def remontoirref07_Bound.f (k : Nat) (l0 : List (S41)) (a1 : Int) : Option (Int) := remontoirref07_Bound.l0 k l0 a1 0 0
theorem remontoirref07_Bound.mono_l : ∀ k, (∀ y0 y1 y2 y3, LeO (remontoirref07_Bound.l0 k y0 y1 y2 y3) (remontoirref07_Bound.l0 (k + 1) y0 y1 y2 y3)) ∧ (∀ y0 y1 y2 y3 y4, LeO (remontoirref07_Bound.l1 k y0 y1 y2 y3 y4) (remontoirref07_Bound.l1 (k + 1) y0 y1 y2 y3 y4))
 | 0 => ⟨fun _ _ _ _ r h => by simp [remontoirref07_Bound.l0] at h, fun _ _ _ _ _ r h => by simp [remontoirref07_Bound.l1] at h⟩
 | k + 1 => by
  obtain ⟨ih0, ih1⟩ := remontoirref07_Bound.mono_l k
  refine ⟨?_, ?_⟩
  ·intro y0 y1 y2 y3
   unfold remontoirref07_Bound.l0
   repeat' first
   | (with_reducible exact ih0 _ _ _ _)
   | (with_reducible exact ih1 _ _ _ _ _)
   | (with_reducible exact LeO.refl _)
   | (with_reducible exact LeO.none _)
   | (with_reducible refine LeO.ite ?_ ?_)
   | (with_reducible refine LeO.bind ?_ (fun _ => ?_))
   | exact ih0 _ _ _ _
   | exact ih1 _ _ _ _ _
   | exact LeO.none _
   | refine LeO.ite ?_ ?_
   | refine LeO.bind ?_ (fun _ => ?_)
  ·intro y0 y1 y2 y3 y4
   unfold remontoirref07_Bound.l1
   repeat' first
   | (with_reducible exact ih0 _ _ _ _)
   | (with_reducible exact ih1 _ _ _ _ _)
   | (with_reducible exact LeO.refl _)
   | (with_reducible exact LeO.none _)
   | (with_reducible refine LeO.ite ?_ ?_)
   | (with_reducible refine LeO.bind ?_ (fun _ => ?_))
   | exact ih0 _ _ _ _
   | exact ih1 _ _ _ _ _
   | exact LeO.none _
   | refine LeO.ite ?_ ?_
   | refine LeO.bind ?_ (fun _ => ?_)
theorem remontoirref07_Bound.mono : ∀ a0 a1 k, LeO (remontoirref07_Bound.f k a0 a1) (remontoirref07_Bound.f (k + 1) a0 a1) := by
 intro a0 a1 k
 obtain ⟨ih0, ih1⟩ := remontoirref07_Bound.mono_l k
 unfold remontoirref07_Bound.f
 repeat' first
   | (with_reducible exact ih0 _ _ _ _)
   | (with_reducible exact ih1 _ _ _ _ _)
   | (with_reducible exact LeO.refl _)
   | (with_reducible exact LeO.none _)
   | (with_reducible refine LeO.ite ?_ ?_)
   | (with_reducible refine LeO.bind ?_ (fun _ => ?_))
   | exact ih0 _ _ _ _
   | exact ih1 _ _ _ _ _
   | exact LeO.none _
   | refine LeO.ite ?_ ?_
   | refine LeO.bind ?_ (fun _ => ?_)
set_option maxHeartbeats 8000000 in
set_option maxRecDepth 100000 in
theorem remontoirref07_Bound.calls (k : Nat) (A0 : Option Addr) (c0 : Nat) (l0 : List (S41)) (a1 : Int) (r : Int) (w : World) (hr0 : Kd.C k41 w A0 l0.length l0) (hc0 : l0.length ≤ c0) (h : remontoirref07_Bound.f k l0 a1 = some r) :
  Calls Try.prog 54 #[.slice A0 l0.length c0, .int .i64 a1] w fun e w' => e = .returned (.int .i64 r) ∧ Drawn0 w w' := by
 have HR0 := Aside0.mk hr0
 have HC0 := Aside0.mk hc0
 clear hr0 hc0
 have H : (remontoirref07_Bound.l0 k l0 a1 0 0) = some r := h
 clear h
 have H' := Aside0.mk H
 clear H
 go_enter Try.func54, Try.ntmps54
 go_wp2
 go_loopg [5, 6] k (fun kq v5 v6 w' => ∃ (x5_1 : Int) (x6_1 : Int), v5 = .int .i64 x5_1 ∧ v6 = .int .i64 x6_1 ∧ Aside0 (remontoirref07_Bound.l0 kq l0 a1 x5_1 x6_1 = some r) ∧ Aside0 (kq ≤ k) ∧ Drawn0 w w')
 case atStart => exact ⟨(0), (0), (by first | rfl | (simp; done) | (simp [*]; done)), (by first | rfl | (simp; done) | (simp [*]; done)), H', ⟨Nat.le_refl _⟩, by repeat (first | exact Drawn0.refl _ | apply Drawn0.step)⟩
 case round =>
  clear H'
  (try clear p2)
  obtain ⟨x5_1, x6_1, rfl, rfl, HA, HK1, ⟨m1, rfl⟩⟩ := hrel
  cases gk with
  | zero => exact absurd HA.out (by simp [remontoirref07_Bound.l0])
  | succ k1 =>
   have H := HA.out
   clear HA
   simp only [remontoirref07_Bound.l0] at H
   by_cases c3 : x6_1 < (l0.length : Int)
   ·rw [if_pos c3] at H
    have c3b0 : decide (x6_1 < (l0.length : Int)) = true := decide_eq_true c3
    clear c3
    by_cases c4 : 0 ≤ x6_1
    ·rw [if_pos c4] at H
     have c4b0 : decide (0 ≤ x6_1) = true := decide_eq_true c4
     clear c4
     have H' := Aside0.mk H
     clear H
     have p294 : 0 ≤ (x6_1 : Int) := of_decide_eq_true (by first | (with_reducible assumption) | assumption)
     have q294 : x6_1 < (l0.length : Int) := of_decide_eq_true (by first | (with_reducible assumption) | assumption)
     obtain ⟨ad294, A294_3, c294_3, e294, hx294_0, hx294_1, hx294_2, hx294_3, hl294_3, hi294_3⟩ := at_T41 HR0.out x6_1 p294 q294
     cases e294
     have HR294_3 := Aside0.mk hi294_3
     have HC294_3 := Aside0.mk hl294_3
     clear hi294_3 hl294_3
     replace p294 := eq_true p294
     replace q294 := eq_true q294
     go_wp2
     go_loopg [5, 7] k1 (fun kq v5 v7 w' => ∃ (x5_2 : Int) (x7_2 : Int), v5 = .int .i64 x5_2 ∧ v7 = .int .i64 x7_2 ∧ Aside0 (remontoirref07_Bound.l1 kq l0 a1 x5_2 x6_1 x7_2 = some r) ∧ Aside0 (kq ≤ k1) ∧ Drawn0 w w')
     case atStart => exact ⟨(x5_1), ((rd_T41 l0 x6_1).f1), (by first | rfl | (simp; done) | (simp [*]; done)), (by first | rfl | (simp; done) | (simp [*]; done)), H', ⟨Nat.le_refl _⟩, by repeat (first | exact Drawn0.refl _ | apply Drawn0.step)⟩
     case round =>
      clear H'
      (try clear c2); (try clear p2); (try clear q2); (try clear hx2); (try clear c3); (try clear c3b0); (try clear c4); (try clear c4b0); (try clear hx294_0); (try clear hx294_1); (try clear hx294_2); (try clear hx294_3); (try clear p2); (try clear p294); (try clear q294)
      obtain ⟨x5_2, x7_2, rfl, rfl, HA, HK2, ⟨m2, rfl⟩⟩ := hrel
      cases gk with
      | zero => exact absurd HA.out (by simp [remontoirref07_Bound.l1])
      | succ k2 =>
       have H := HA.out
       clear HA
       simp only [remontoirref07_Bound.l1] at H
       by_cases c5 : x7_2 ≤ a1
       ·rw [if_pos c5] at H
        have c5b0 : decide (x7_2 ≤ a1) = true := decide_eq_true c5
        clear c5
        by_cases c6 : 0 ≤ x6_1
        ·rw [if_pos c6] at H
         have c6b0 : decide (0 ≤ x6_1) = true := decide_eq_true c6
         clear c6
         by_cases c7 : x6_1 < (l0.length : Int)
         ·rw [if_pos c7] at H
          have c7b0 : decide (x6_1 < (l0.length : Int)) = true := decide_eq_true c7
          clear c7
          have H' := Aside0.mk H
          clear H
          have p295 : 0 ≤ (x6_1 : Int) := of_decide_eq_true (by first | (with_reducible assumption) | assumption)
          have q295 : x6_1 < (l0.length : Int) := of_decide_eq_true (by first | (with_reducible assumption) | assumption)
          obtain ⟨ad295, A295_3, c295_3, e295, hx295_0, hx295_1, hx295_2, hx295_3, hl295_3, hi295_3⟩ := at_T41 HR0.out x6_1 p295 q295
          obtain rfl : ad294 = ad295 := (by injection e295)
          have HR295_3 := Aside0.mk hi295_3
          have HC295_3 := Aside0.mk hl295_3
          clear hi295_3 hl295_3
          replace p295 := eq_true p295
          replace q295 := eq_true q295
          have p296 : 0 ≤ (x6_1 : Int) := of_decide_eq_true (by first | (with_reducible assumption) | assumption)
          have q296 : x6_1 < (l0.length : Int) := of_decide_eq_true (by first | (with_reducible assumption) | assumption)
          obtain ⟨ad296, A296_3, c296_3, e296, hx296_0, hx296_1, hx296_2, hx296_3, hl296_3, hi296_3⟩ := at_T41 HR0.out x6_1 p296 q296
          obtain rfl : ad294 = ad296 := (by injection e296)
          have HR296_3 := Aside0.mk hi296_3
          have HC296_3 := Aside0.mk hl296_3
          clear hi296_3 hl296_3
          replace p296 := eq_true p296
          replace q296 := eq_true q296
          have ea_ := Option.some.inj (hx295_3.symm.trans hx296_3)
          injection ea_ with ea_ en_ ec_
          subst ea_
          subst ec_
          clear en_
          go_wp2
          go_roundg k2
          case measure => have := HK1.out; have := HK2.out; omega
          case rel => exact ⟨(wrap64 (x5_2 + ((rd_T41 l0 x6_1).f0))), (wrap64 (x7_2 + ((rd_T41 l0 x6_1).f2))), (by first | rfl | (simp; done) | (simp [*]; done)), (by first | rfl | (simp; done) | (simp [*]; done)), H', ⟨by have := HK1.out; have := HK2.out; omega⟩, by repeat (first | exact Drawn0.refl _ | apply Drawn0.step)⟩
         ·rw [if_neg c7] at H
          exact absurd H (by simp)
        ·rw [if_neg c6] at H
         exact absurd H (by simp)
       ·rw [if_neg c5] at H
        have c5b0 : decide (x7_2 ≤ a1) = false := decide_eq_false c5
        clear c5
        have H' := Aside0.mk H
        clear H
        go_wp2
        go_roundg k2
        case measure => have := HK1.out; have := HK2.out; omega
        case rel => exact ⟨(x5_2), (wrap64 (x6_1 + 1)), (by first | rfl | (simp; done) | (simp [*]; done)), (by first | rfl | (simp; done) | (simp [*]; done)), H', ⟨by have := HK1.out; have := HK2.out; omega⟩, by repeat (first | exact Drawn0.refl _ | apply Drawn0.step)⟩
    ·rw [if_neg c4] at H
     exact absurd H (by simp)
   ·rw [if_neg c3] at H
    have c3b0 : decide (x6_1 < (l0.length : Int)) = false := decide_eq_false c3
    clear c3
    obtain rfl := Option.some.inj H
    go_wp2
    go_ret
    exact ⟨by first | rfl | (simp; done) | (simp [*]; done), by repeat (first | exact Drawn0.refl _ | apply Drawn0.step)⟩

/-! ### remontoirref05_Uses: function 57 -/
def remontoirref05_Uses.l0 : Nat → Int → Int → Int → Int → Int → Int → List (S63) → Option (Bool)
 | 0, _, _, _, _, _, _, _ => none
 | k + 1, x1, x5, x6, x298000, x298001, x298002, x298003 => if x6 < (x298003.length : Int) then (if 0 ≤ x6 then (if ((rd_T63 x298003 x6).f0) = x1 then (remontoirref05_Uses.l0 k x1 (wrap64 (x5 + 1)) (wrap64 (x6 + 1)) x298000 x298001 x298002 x298003) else (remontoirref05_Uses.l0 k x1 x5 (wrap64 (x6 + 1)) x298000 x298001 x298002 x298003)) else (none)) else (some (decide (x5 > 0)))
def remontoirref05_Uses.f (k : Nat) (a0_0 : Int) (a0_1 : Int) (a0_2 : Int) (l0_3 : List (S63)) (a1 : Int) : Option (Bool) := remontoirref05_Uses.l0 k a1 0 0 a0_0 a0_1 a0_2 l0_3
theorem remontoirref05_Uses.mono_l : ∀ k, (∀ y0 y1 y2 y3 y4 y5 y6, LeO (remontoirref05_Uses.l0 k y0 y1 y2 y3 y4 y5 y6) (remontoirref05_Uses.l0 (k + 1) y0 y1 y2 y3 y4 y5 y6))
 | 0 => fun _ _ _ _ _ _ _ r h => by simp [remontoirref05_Uses.l0] at h
 | k + 1 => by
  have ih0 := remontoirref05_Uses.mono_l k
  ·intro y0 y1 y2 y3 y4 y5 y6
   unfold remontoirref05_Uses.l0
   repeat' first
   | (with_reducible exact ih0 _ _ _ _ _ _ _)
   | (with_reducible exact LeO.refl _)
   | (with_reducible exact LeO.none _)
   | (with_reducible refine LeO.ite ?_ ?_)
   | (with_reducible refine LeO.bind ?_ (fun _ => ?_))
   | exact ih0 _ _ _ _ _ _ _
   | exact LeO.none _
   | refine LeO.ite ?_ ?_
   | refine LeO.bind ?_ (fun _ => ?_)
theorem remontoirref05_Uses.mono : ∀ a0 a1 a2 a3 a4 k, LeO (remontoirref05_Uses.f k a0 a1 a2 a3 a4) (remontoirref05_Uses.f (k + 1) a0 a1 a2 a3 a4) := by
 intro a0 a1 a2 a3 a4 k
 have ih0 := remontoirref05_Uses.mono_l k
 unfold remontoirref05_Uses.f
 repeat' first
   | (with_reducible exact ih0 _ _ _ _ _ _ _)
   | (with_reducible exact LeO.refl _)
   | (with_reducible exact LeO.none _)
   | (with_reducible refine LeO.ite ?_ ?_)
   | (with_reducible refine LeO.bind ?_ (fun _ => ?_))
   | exact ih0 _ _ _ _ _ _ _
   | exact LeO.none _
   | refine LeO.ite ?_ ?_
   | refine LeO.bind ?_ (fun _ => ?_)
set_option maxHeartbeats 8000000 in
set_option maxRecDepth 100000 in
theorem remontoirref05_Uses.calls (k : Nat) (a0_0 : Int) (a0_1 : Int) (a0_2 : Int) (A0_3 : Option Addr) (c0_3 : Nat) (l0_3 : List (S63)) (a1 : Int) (r : Bool) (w : World) (hr0_3 : Kd.C k63 w A0_3 l0_3.length l0_3) (hc0_3 : l0_3.length ≤ c0_3) (h : remontoirref05_Uses.f k a0_0 a0_1 a0_2 l0_3 a1 = some r) :
  Calls Try.prog 57 #[.agg #[.int .i64 a0_0, .int .i64 a0_1, .int .i64 a0_2, .slice A0_3 l0_3.length c0_3], .int .i64 a1] w fun e w' => e = .returned (.bool r) ∧ Below w.heap.size w w' := by
 have hu41 := Try.underlying41
 have HR0_3 := Aside0.mk hr0_3
 have HC0_3 := Aside0.mk hc0_3
 clear hr0_3 hc0_3
 have HB := Aside0.mk (Below.refl w.heap.size w)
 have H : (remontoirref05_Uses.l0 k a1 0 0 a0_0 a0_1 a0_2 l0_3) = some r := h
 clear h
 have H' := Aside0.mk H
 clear H
 go_enter Try.func57, Try.ntmps57
 go_wp2_with (first | ((with_reducible refine gate_dst (N := 2) rfl ?_); refine box_event ?hg (N := 2) ?hd (cs := #[.int .i64 a0_0, .int .i64 a0_1, .int .i64 a0_2, .slice A0_3 l0_3.length c0_3]) (t := 41) ?hr ?_; (case hd => rfl); (case hg => rfl); (case hr => first | (go_simp; done) | (go_simp; rfl)); intro gb297 hg w3 hbox hb; have n0_ := Aside0.mk (below_step (by repeat (first | (with_reducible first | exact HB.out | apply below_alloc | apply pw_below_drewN | apply below_drew1) | exact HB.out)) hb); have n1_ := Aside0.mk (hbox); have n2_ := Aside0.mk ((by rw [hg]; exact (below_size (by repeat (first | (with_reducible first | exact HB.out | apply below_alloc | apply pw_below_drewN | apply below_drew1) | exact HB.out))) : w.heap.size ≤ gb297)); have n3_ := Aside0.mk ((by rw [hg]; exact (below_size (by repeat (first | (with_reducible first | exact HB.out | apply below_alloc | apply pw_below_drewN | apply below_drew1) | exact HB.out))) : w.heap.size ≤ gb297)); clear HB; have HB := n0_; have BK297 := n1_; have GW297 := n2_; have GE297 := n3_; clear n0_ n1_ n2_ n3_; clear hb hbox hg))
 go_loopg [5, 6] k (fun kq v5 v6 w' => ∃ (x5_1 : Int) (x6_1 : Int), v5 = .int .i64 x5_1 ∧ v6 = .int .i64 x6_1 ∧ Aside0 (remontoirref05_Uses.l0 kq a1 x5_1 x6_1 a0_0 a0_1 a0_2 l0_3 = some r) ∧ Aside0 (kq ≤ k) ∧ Aside0 (w'.heap[gb297]? = some (.cells #[.int .i64 a0_0, .int .i64 a0_1, .int .i64 a0_2, (.slice A0_3 l0_3.length c0_3)] 41 (0, 0))) ∧ Aside0 (Below w.heap.size w w'))
 case atStart => exact ⟨(0), (0), (by first | rfl | (simp; done) | (simp [*]; done)), (by first | rfl | (simp; done) | (simp [*]; done)), H', ⟨Nat.le_refl _⟩, ⟨by (with_reducible repeat (first | refine blk_drewN ?_ _ | refine blk_drew ?_ | refine blk_alloc ?_ _)); exact BK297.out⟩, ⟨by repeat (first | (with_reducible first | exact HB.out | apply below_alloc | apply pw_below_drewN | apply below_drew1 | refine below_set ?_ GE297.out) | exact HB.out)⟩⟩
 case round =>
  clear H'
  (try clear p2)
  obtain ⟨x5_1, x6_1, rfl, rfl, HA, HK1, BK297, HB⟩ := hrel
  cases gk with
  | zero => exact absurd HA.out (by simp [remontoirref05_Uses.l0])
  | succ k1 =>
   have H := HA.out
   clear HA
   simp only [remontoirref05_Uses.l0] at H
   by_cases c4 : x6_1 < (l0_3.length : Int)
   ·rw [if_pos c4] at H
    have c4b0 : decide (x6_1 < (l0_3.length : Int)) = true := decide_eq_true c4
    clear c4
    by_cases c5 : 0 ≤ x6_1
    ·rw [if_pos c5] at H
     have c5b0 : decide (0 ≤ x6_1) = true := decide_eq_true c5
     clear c5
     by_cases c6 : ((rd_T63 l0_3 x6_1).f0) = a1
     ·rw [if_pos c6] at H
      have c6b0 : (((rd_T63 l0_3 x6_1).f0) == a1) = true := beq_iff_eq.mpr c6
      have c6b1 : (((rd_T63 l0_3 x6_1).f0) != a1) = false := bne_eq_false_iff_eq.mpr c6
      clear c6
      have H' := Aside0.mk H
      clear H
      have hcz7_0 : wr.cell? ⟨gb297, 0, none⟩ = some (.int .i64 a0_0) := (blk_cell BK297.out 0).trans rfl
      have hcz7_1 : wr.cell? ⟨gb297, 1, none⟩ = some (.int .i64 a0_1) := (blk_cell BK297.out 1).trans rfl
      have hcz7_2 : wr.cell? ⟨gb297, 2, none⟩ = some (.int .i64 a0_2) := (blk_cell BK297.out 2).trans rfl
      have hcz7_3 : wr.cell? ⟨gb297, 3, none⟩ = some (.slice A0_3 l0_3.length c0_3) := (blk_cell BK297.out 3).trans rfl
      have hfz7_0 := blk_frozen BK297.out 0
      have hfz7_1 := blk_frozen BK297.out 1
      have hfz7_2 := blk_frozen BK297.out 2
      have hfz7_3 := blk_frozen BK297.out 3
      have p298 : 0 ≤ (x6_1 : Int) := of_decide_eq_true (by first | (with_reducible assumption) | assumption)
      have q298 : x6_1 < (l0_3.length : Int) := of_decide_eq_true (by first | (with_reducible assumption) | assumption)
      obtain ⟨ad298, e298, hx298_0, hx298_1, hx298_2⟩ := at_T63 HR0_3.out x6_1 p298 q298
      cases e298
      replace hx298_0 := (HB.out.cell (World.block_lt_of_cell? w _ hx298_0)).trans hx298_0
      replace hx298_1 := (HB.out.cell (World.block_lt_of_cell? w _ hx298_1)).trans hx298_1
      replace hx298_2 := (HB.out.cell (World.block_lt_of_cell? w _ hx298_2)).trans hx298_2
      replace p298 := eq_true p298
      replace q298 := eq_true q298
      go_wp2
      go_roundg k1
      case measure => have := HK1.out; omega
      case rel => exact ⟨(wrap64 (x5_1 + 1)), (wrap64 (x6_1 + 1)), (by first | rfl | (simp; done) | (simp [*]; done)), (by first | rfl | (simp; done) | (simp [*]; done)), H', ⟨by have := HK1.out; omega⟩, ⟨by (with_reducible repeat (first | refine blk_drewN ?_ _ | refine blk_drew ?_ | refine blk_alloc ?_ _)); exact BK297.out⟩, ⟨by repeat (first | (with_reducible first | exact HB.out | apply below_alloc | apply pw_below_drewN | apply below_drew1 | refine below_set ?_ GE297.out) | exact HB.out)⟩⟩
     ·rw [if_neg c6] at H
      have c6b0 : (((rd_T63 l0_3 x6_1).f0) == a1) = false := beq_eq_false_iff_ne.mpr c6
      have c6b1 : (((rd_T63 l0_3 x6_1).f0) != a1) = true := bne_iff_ne.mpr c6
      have H' := Aside0.mk H
      clear H
      have hcz8_0 : wr.cell? ⟨gb297, 0, none⟩ = some (.int .i64 a0_0) := (blk_cell BK297.out 0).trans rfl
      have hcz8_1 : wr.cell? ⟨gb297, 1, none⟩ = some (.int .i64 a0_1) := (blk_cell BK297.out 1).trans rfl
      have hcz8_2 : wr.cell? ⟨gb297, 2, none⟩ = some (.int .i64 a0_2) := (blk_cell BK297.out 2).trans rfl
      have hcz8_3 : wr.cell? ⟨gb297, 3, none⟩ = some (.slice A0_3 l0_3.length c0_3) := (blk_cell BK297.out 3).trans rfl
      have hfz8_0 := blk_frozen BK297.out 0
      have hfz8_1 := blk_frozen BK297.out 1
      have hfz8_2 := blk_frozen BK297.out 2
      have hfz8_3 := blk_frozen BK297.out 3
      have p298 : 0 ≤ (x6_1 : Int) := of_decide_eq_true (by first | (with_reducible assumption) | assumption)
      have q298 : x6_1 < (l0_3.length : Int) := of_decide_eq_true (by first | (with_reducible assumption) | assumption)
      obtain ⟨ad298, e298, hx298_0, hx298_1, hx298_2⟩ := at_T63 HR0_3.out x6_1 p298 q298
      cases e298
      replace hx298_0 := (HB.out.cell (World.block_lt_of_cell? w _ hx298_0)).trans hx298_0
      replace hx298_1 := (HB.out.cell (World.block_lt_of_cell? w _ hx298_1)).trans hx298_1
      replace hx298_2 := (HB.out.cell (World.block_lt_of_cell? w _ hx298_2)).trans hx298_2
      replace p298 := eq_true p298
      replace q298 := eq_true q298
      go_wp2
      go_roundg k1
      case measure => have := HK1.out; omega
      case rel => exact ⟨(x5_1), (wrap64 (x6_1 + 1)), (by first | rfl | (simp; done) | (simp [*]; done)), (by first | rfl | (simp; done) | (simp [*]; done)), H', ⟨by have := HK1.out; omega⟩, ⟨by (with_reducible repeat (first | refine blk_drewN ?_ _ | refine blk_drew ?_ | refine blk_alloc ?_ _)); exact BK297.out⟩, ⟨by repeat (first | (with_reducible first | exact HB.out | apply below_alloc | apply pw_below_drewN | apply below_drew1 | refine below_set ?_ GE297.out) | exact HB.out)⟩⟩
    ·rw [if_neg c5] at H
     exact absurd H (by simp)
   ·rw [if_neg c4] at H
    have c4b0 : decide (x6_1 < (l0_3.length : Int)) = false := decide_eq_false c4
    clear c4
    obtain rfl := Option.some.inj H
    have hcz9_0 : wr.cell? ⟨gb297, 0, none⟩ = some (.int .i64 a0_0) := (blk_cell BK297.out 0).trans rfl
    have hcz9_1 : wr.cell? ⟨gb297, 1, none⟩ = some (.int .i64 a0_1) := (blk_cell BK297.out 1).trans rfl
    have hcz9_2 : wr.cell? ⟨gb297, 2, none⟩ = some (.int .i64 a0_2) := (blk_cell BK297.out 2).trans rfl
    have hcz9_3 : wr.cell? ⟨gb297, 3, none⟩ = some (.slice A0_3 l0_3.length c0_3) := (blk_cell BK297.out 3).trans rfl
    have hfz9_0 := blk_frozen BK297.out 0
    have hfz9_1 := blk_frozen BK297.out 1
    have hfz9_2 := blk_frozen BK297.out 2
    have hfz9_3 := blk_frozen BK297.out 3
    go_wp2
    go_ret
    exact ⟨by first | rfl | (simp [errW_none, errW_some] <;> rfl) | (simp [*, errW_none, errW_some] <;> rfl), by repeat (first | (with_reducible first | exact HB.out | apply below_alloc | apply pw_below_drewN | apply below_drew1 | refine below_set ?_ GE297.out) | exact HB.out)⟩

end Go.Proofs.Ytljgloljncokeaa.PQa
