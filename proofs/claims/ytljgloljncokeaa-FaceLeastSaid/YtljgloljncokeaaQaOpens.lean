-- Written by a program of this session (pp.py, over the kit's print) out of the translation; functions with closures by hand.
import Derived.Test.YtljgloljncokeaaQa0
import Derived.Deep.Slices
import Derived.DataReads
import Derived.ChangeOld
namespace Go.Proofs.Ytljgloljncokeaa.PQa
open Go.RowKit Go.Proofs.YtljgloljncokeaaW.PrintWords Go.Proofs.YtljgloljncokeaaW.PrintLast Go.Proofs.YtljgloljncokeaaW.PrintMore
open Go.ChangeShapes Go.WideShapes
set_option linter.unusedVariables false
set_option linter.unusedSimpArgs false
/-- What reads as data of type t is of the kind d. -/
def Opens (P : Program) (t : TypeId) {α : Type} (d : Kd α) (ok : α → Prop) : Prop :=
  ∀ {H : Type} (enc : TypeId × Value → H) (w : World) (fuel : Nat) (cs : List Value) (x : DataW H × List MemPlace),
    DataW.trod enc P w 0 (fun _ => true) true fuel t cs = some x → ∃ a : α, d.K w a cs ∧ ok a
theorem Opens.int {P : Program} {t : TypeId} {k : IntKind} (ht : P.underlying t = some (.int k)) : Opens P t (Kd.int k) (fun n => (Lit.int k n).wf = true) := by
  intro H enc w fuel cs x h
  obtain ⟨n, rfl, _, hw⟩ := DataW.trod_int ht h
  exact ⟨n, rfl, hw⟩
theorem Opens.bool {P : Program} {t : TypeId} (ht : P.underlying t = some .bool) : Opens P t Kd.bool (fun _ => True) := by
  intro H enc w fuel cs x h
  obtain ⟨n, rfl, _⟩ := DataW.trod_bool ht h
  exact ⟨n, rfl, trivial⟩
theorem Opens.slice {P : Program} {t e : TypeId} {α : Type} {d : Kd α} {ok : α → Prop} (ht : P.underlying t = some (.slice e)) (hsz : P.cellsOf e = d.sz) (ho : Opens P e d ok) :
    Opens P t (Kd.slice e d) (fun xs => (∀ x ∈ xs, ok x) ∧ xs.length ≤ 9223372036854775807) := by
  intro H enc w fuel cs x h
  rcases Deep.open_slice ht h with ⟨rfl, _⟩ | ⟨a, len, cap, m, n, D, Pl, rfl, _, hl, hm, hmm, _, hel⟩
  · exact ⟨[], ⟨none, 0, rfl, Nat.le_refl _, ⟨rfl, by simp, fun h => absurd h (by simp)⟩⟩, by simp, by simp⟩
  · have hmc : m = cap := by simpa using hmm
    subst hmc
    have key : ∀ q, q ≤ len → ∃ xs : List α, xs.length = q ∧ ∀ j p, xs[j]? = some p → ok p ∧ ∃ c, c.length = d.sz ∧ d.K w p c ∧ ∀ i u, c[i]? = some u → w.cell? (a.add (j * d.sz + i)) = some u := by
      intro q
      induction q with
      | zero => intro _; exact ⟨[], rfl, fun j p h => by simp at h⟩
      | succ q ih =>
        intro hq
        obtain ⟨xs, hxl, hx⟩ := ih (by omega)
        obtain ⟨c, hc, htr⟩ := hel q (by omega)
        obtain ⟨p, hp, hok⟩ := ho enc w n c _ htr
        obtain ⟨_, hcl, hcc⟩ := World.cells?_some hc
        rw [hsz] at hcl
        refine ⟨xs ++ [p], by simp [hxl], fun j y hy => ?_⟩
        rcases Nat.lt_or_ge j q with hj | hj
        · rw [List.getElem?_append_left (by omega)] at hy
          exact hx j y hy
        · have hjl := (List.getElem?_eq_some_iff.1 hy).1
          rw [List.length_append, List.length_singleton] at hjl
          have hj' : j = q := by omega
          subst hj'
          have hy' : p = y := by rw [List.getElem?_append_right (by omega)] at hy; simpa [hxl] using hy
          subst hy'
          refine ⟨hok, c, hcl, hp, fun i u hu => ?_⟩
          have hi : i < c.length := (List.getElem?_eq_some_iff.1 hu).1
          have h1 := hcc i (by omega)
          rw [hu] at h1
          rw [hsz, Deep.add_add] at h1
          exact h1
    obtain ⟨xs, hxl, hx⟩ := key len (Nat.le_refl _)
    subst hxl
    refine ⟨xs, ⟨some a, m, rfl, hl, ⟨rfl, by unfold maxLen at hm; omega, fun _ => ⟨a, rfl, fun j p hj => (hx j p hj).2⟩⟩⟩, fun x hx' => ?_, by unfold maxLen at hm; omega⟩
    obtain ⟨j, hj⟩ := List.mem_iff_getElem?.1 hx'
    exact (hx j x hj).1
theorem Opens.field {P : Program} {t : TypeId} {α : Type} {d : Kd α} {ok : α → Prop} (ho : Opens P t d ok) {H : Type} {enc : TypeId × Value → H} {w : World} {fuel : Nat} {cs : List Value} {o : Option (DataW H × List MemPlace)}
    (h : DataW.trod enc P w 0 (fun _ => true) true fuel t cs = o) (hs : o.isSome = true) : ∃ a : α, d.K w a cs ∧ ok a := by
  cases o with
  | none => cases hs
  | some x => exact ho enc w fuel cs x h
theorem Opens.cut {α β : Type} {a : Kd α} {b : Kd β} {w : World} {x : α} {y : β} {cs : List Value} (m : Nat) (ha : a.K w x (cs.take m)) (hb : b.K w y (cs.drop m)) : (Kd.pair a b).K w (x, y) cs :=
  ⟨cs.take m, cs.drop m, (List.take_append_drop m cs).symm, ha, hb⟩
def ok63 (x : S63) : Prop := (Lit.int .i64 x.f0).wf = true ∧ (Lit.int .i64 x.f1).wf = true ∧ (Lit.int .i64 x.f2).wf = true
theorem opens63 : Opens Try.prog 63 k63 ok63 := by
  intro H enc w fuel cs x h
  obtain ⟨xs, n, _, _, hlen, hxl, hf⟩ := DataW.trod_struct Try.underlying63 h
  have hC : Try.prog.cellsOf 63 = 3 := by kernel_rfl
  rw [hC] at hlen
  have hxl2 : xs.length = 3 := hxl
  obtain ⟨a0, q0, w0⟩ := Opens.field (Opens.int Try.underlying3) (hf 0 _ rfl) (by rw [List.getElem?_eq_getElem (by omega)]; rfl)
  have s0 : Try.prog.cellsOf 3 = 1 := by kernel_rfl
  have g0 : ((Kd.int .i64)).K w a0 ((cs.drop 0).take (Try.prog.cellsOf 3)) := q0
  rw [s0] at g0
  obtain ⟨a1, q1, w1⟩ := Opens.field (Opens.int Try.underlying3) (hf 1 _ rfl) (by rw [List.getElem?_eq_getElem (by omega)]; rfl)
  have s1 : Try.prog.cellsOf 3 = 1 := by kernel_rfl
  have g1 : ((Kd.int .i64)).K w a1 ((cs.drop 1).take (Try.prog.cellsOf 3)) := q1
  rw [s1] at g1
  obtain ⟨a2, q2, w2⟩ := Opens.field (Opens.int Try.underlying3) (hf 2 _ rfl) (by rw [List.getElem?_eq_getElem (by omega)]; rfl)
  have s2 : Try.prog.cellsOf 3 = 1 := by kernel_rfl
  have g2 : ((Kd.int .i64)).K w a2 ((cs.drop 2).take (Try.prog.cellsOf 3)) := q2
  rw [s2] at g2
  rw [List.take_of_length_le (by simp; omega)] at g2
  refine ⟨⟨a0, a1, a2⟩, ?_, by unfold ok63; exact ⟨w0, w1, w2⟩⟩
  refine (show k63.K w _ cs from Opens.cut 1 ?_ (Opens.cut 1 ?_ ?_))
  · simpa [List.drop_drop] using g0
  · simpa [List.drop_drop] using g1
  · simpa [List.drop_drop] using g2
def ok41 (x : S41) : Prop := (Lit.int .i64 x.f0).wf = true ∧ (Lit.int .i64 x.f1).wf = true ∧ (Lit.int .i64 x.f2).wf = true ∧ ((∀ y ∈ x.f3, ok63 y) ∧ x.f3.length ≤ 9223372036854775807)
theorem opens41 : Opens Try.prog 41 k41 ok41 := by
  intro H enc w fuel cs x h
  obtain ⟨xs, n, _, _, hlen, hxl, hf⟩ := DataW.trod_struct Try.underlying41 h
  have hC : Try.prog.cellsOf 41 = 4 := by kernel_rfl
  rw [hC] at hlen
  have hxl2 : xs.length = 4 := hxl
  obtain ⟨a0, q0, w0⟩ := Opens.field (Opens.int Try.underlying3) (hf 0 _ rfl) (by rw [List.getElem?_eq_getElem (by omega)]; rfl)
  have s0 : Try.prog.cellsOf 3 = 1 := by kernel_rfl
  have g0 : ((Kd.int .i64)).K w a0 ((cs.drop 0).take (Try.prog.cellsOf 3)) := q0
  rw [s0] at g0
  obtain ⟨a1, q1, w1⟩ := Opens.field (Opens.int Try.underlying3) (hf 1 _ rfl) (by rw [List.getElem?_eq_getElem (by omega)]; rfl)
  have s1 : Try.prog.cellsOf 3 = 1 := by kernel_rfl
  have g1 : ((Kd.int .i64)).K w a1 ((cs.drop 1).take (Try.prog.cellsOf 3)) := q1
  rw [s1] at g1
  obtain ⟨a2, q2, w2⟩ := Opens.field (Opens.int Try.underlying3) (hf 2 _ rfl) (by rw [List.getElem?_eq_getElem (by omega)]; rfl)
  have s2 : Try.prog.cellsOf 3 = 1 := by kernel_rfl
  have g2 : ((Kd.int .i64)).K w a2 ((cs.drop 2).take (Try.prog.cellsOf 3)) := q2
  rw [s2] at g2
  obtain ⟨a3, q3, w3⟩ := Opens.field (Opens.slice Try.underlying39 (by kernel_rfl) opens63) (hf 3 _ rfl) (by rw [List.getElem?_eq_getElem (by omega)]; rfl)
  have s3 : Try.prog.cellsOf 39 = 1 := by kernel_rfl
  have g3 : ((Kd.slice 63 k63)).K w a3 ((cs.drop 3).take (Try.prog.cellsOf 39)) := q3
  rw [s3] at g3
  rw [List.take_of_length_le (by simp; omega)] at g3
  refine ⟨⟨a0, a1, a2, a3⟩, ?_, by unfold ok41; exact ⟨w0, w1, w2, w3⟩⟩
  refine (show k41.K w _ cs from Opens.cut 1 ?_ (Opens.cut 1 ?_ (Opens.cut 1 ?_ ?_)))
  · simpa [List.drop_drop] using g0
  · simpa [List.drop_drop] using g1
  · simpa [List.drop_drop] using g2
  · simpa [List.drop_drop] using g3
end Go.Proofs.Ytljgloljncokeaa.PQa
