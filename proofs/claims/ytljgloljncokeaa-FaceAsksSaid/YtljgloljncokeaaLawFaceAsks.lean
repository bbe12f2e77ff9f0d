/- The law FaceAsks of the given program: for every input the call returns true, and each argument reads afterwards as before. -/
import Derived.Test.YtljgloljncokeaaRows
import Derived.Test.YtljgloljncokeaaQa17
import Derived.Test.YtljgloljncokeaaQaOpens
import Derived.Test.YtljgloljncokeaaPureFaceAsks
import Derived.WalkKit
import Derived.ProofKit
import Derived.OpenShut
import Derived.ShutString
import Derived.ChangeOld
import Derived.Below
import Derived.SizedLaws
namespace Go.Proofs.Ytljgloljncokeaa.faceAsks
open Go.ChangeShapes Go.WideShapes Go.ChangeAt Go.RowKit Go.Proofs.YtljgloljncokeaaW.PrintWords Go.Proofs.YtljgloljncokeaaW.PrintLast Go.Proofs.YtljgloljncokeaaW.PrintMore Go.Proofs.Ytljgloljncokeaa.PQa
set_option linter.unusedVariables false
set_option linter.unusedSimpArgs false
theorem own : ownKnob Try.prog.godebug = none := by kernel_rfl
theorem laidOut : laidOutB Try.prog = true := by kernel_rfl
set_option maxRecDepth 100000 in
theorem lifted (os : Os) (started : os.Started) (H : Type) (enc : TypeId × Value → H) :
    ReturnsInHanded {} Try.checked os 8 .any (Rows.faceAsksSpec.pre6 enc Try.prog Try.f8 Rows.faceAsksRow.domain false) (Rows.faceAsksSpec.post enc Try.prog Try.f8 false true false false) := by
  refine returnsInHanded_of_change_sized (C := Try.checked) own started (by kernel_rfl) Try.func8
    (ChangeSpec.witness6 (enc := enc) (C := Try.checked) false ⟨#[], #[.agg #[.int .i64 0, .int .i64 0, .int .i64 0, .slice none 0 0], .int .i64 0], []⟩ 8 (by kernel_rfl) (by kernel_rfl) (by kernel_rfl) (by kernel_rfl)) ?_
  intro W base args ds gs before hval0 hW hcnd hsz0 _
  have hval : ∀ (j : Nat) t v, Try.f8.params[j]? = some t → args[j]? = some v → Value.okWide Try.prog W .any base t v := hval0
  have hW' := hW
  obtain ⟨p, q, hA0, hV, rfl, hfz, hnd⟩ := hW
  have hA : DataW.TrodAll enc Try.prog W 0 (fun _ => true) true Try.f8.params.toList args.toList ds p := hA0
  rw [Try.params8] at hA hval
  obtain ⟨v0, vs0, d0, ds0, p0, q0, hargs, rfl, rfl, h0, r0⟩ := trodAll_cons hA
  obtain ⟨v1, vs1, d1, ds1, p1, q1, rfl, rfl, rfl, h1, r1⟩ := trodAll_cons r0
  obtain ⟨rfl, rfl, rfl⟩ := trodAll_nil r1
  obtain rfl : args = #[v0, v1] := by cases args; simp_all
  obtain ⟨rfl, rfl⟩ := trodVars_none hV
  have k0 := h0
  have lt0 : ∀ x ∈ p0, x.block < W.heap.size := by obtain ⟨m, hm⟩ := k0; exact DataW.trod_lt m _ _ _ hm
  obtain ⟨arr0, rfl, sz0⟩ := okWide_struct Try.underlying41 (hval 0 41 v0 rfl rfl)
  obtain ⟨x0, w0, o0⟩ : ∃ x : S41, k41.K W x arr0.toList ∧ ok41 x := by
    obtain ⟨fuel, hf⟩ := h0
    exact opens41 enc W fuel _ _ (by simpa [Value.cells] using hf)
  obtain ⟨A0_3, c0_3, e0, hc0_3, hr0_3⟩ := k41_open w0
  obtain rfl : arr0 = #[.int .i64 x0.f0, .int .i64 x0.f1, .int .i64 x0.f2, .slice A0_3 x0.f3.length c0_3] := by rw [← Array.toArray_toList (xs := arr0), e0]
  obtain ⟨a1, rfl, rfl, rfl, o1⟩ := open_int Try.underlying3 (hval 1 3 v1 rfl rfl) h1
  clear hA0 hval0 hsz0
  obtain ⟨K, hK⟩ := pureFaceAsks x0 a1 o0 o1
  refine (remontoirlaw11_FaceAsks.calls K x0.f0 x0.f1 x0.f2 (fun k => k < W.heap.size) A0_3 c0_3 x0.f3 a1 true W (Kd.V_mk hc0_3 (fun W' hW_ => heapT63.C (fun k_ hk_ => hW_ k_ hk_ hk_) hr0_3)) hK).mono fun e W' ⟨he, bel0⟩ => ?_
  have bel : Below W.heap.size W W' := bel0
  subst he
  exact ⟨_, rfl, _, _, _, [], _, [], hW', trodAll_mk1 (shut_bool Try.underlying4 _), (trodAll_cons_mk (Below.trod laidOut (by kernel_rfl) (of_decide_eq_true (by kernel_rfl)) k0 bel lt0) (trodAll_cons_mk (shut_int Try.underlying3 o1) trodAll_mk0)), rfl, bel.frame _, fun h => by cases h⟩
theorem over : Rows.faceAsksRow.holds Try.pinned (OpenSpec.ofChange Rows.faceAsksSpec) :=
  OpenClaim.holds_of_wide 8 Try.f8 rfl rfl rfl rfl rfl rfl rfl ⟨rfl, rfl, rfl, rfl, rfl⟩ rfl rfl rfl rfl rfl (by kernel_rfl) Try.func8 (by kernel_rfl)
    (of_decide_eq_true (by kernel_rfl)) (by unfold Func.isWrapper; first | (rw [if_pos (by decide +kernel)]; kernel_rfl) | (rw [if_neg (by decide +kernel)]; exact ⟨rfl, rfl⟩))
    (fun os started H enc _ => lifted os started H enc)
theorem proved : Rows.FaceAsksSaid := over
end Go.Proofs.Ytljgloljncokeaa.faceAsks
namespace Go.Proofs.Ytljgloljncokeaa
/-- The row, under a short name, for the claim. -/
theorem faceAsks_holds : Rows.FaceAsksSaid := faceAsks.proved
end Go.Proofs.Ytljgloljncokeaa
