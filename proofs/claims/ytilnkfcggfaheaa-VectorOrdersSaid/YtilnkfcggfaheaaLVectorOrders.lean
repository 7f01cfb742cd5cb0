/-
  The law darnerlaw09.VectorOrders is proved: for every input the call returns true, and each argument reads behind the call as it read before. No condition.
-/
import Derived.Test.YtilnkfcggfaheaaOpen
import Derived.Test.YtilnkfcggfaheaaVecOpen
import Derived.Test.YtilnkfcggfaheaaVecOrdersG
import Derived.Below
namespace Go.Proofs.Ytilnkfcggfaheaa.vectorOrders
open Go.ChangeShapes Go.WideShapes Go.ChangeAt Go.RowKit
set_option linter.unusedVariables false

set_option maxRecDepth 100000 in
theorem lifted (os : Os) (started : os.Started) (H : Type) (enc : TypeId × Value → H) :
    ReturnsInHanded {} Try.checked os 4 .any (Rows.vectorOrdersSpec.pre6 enc Try.prog Try.f4 Rows.vectorOrdersRow.domain false) (Rows.vectorOrdersSpec.post enc Try.prog Try.f4 false true false false) := by
  refine returnsInHanded_of_change (C := Try.checked) Try.ownNone started (by kernel_rfl) Try.func4
    (ChangeSpec.witness6 (enc := enc) (C := Try.checked) false ⟨#[], #[.agg #[.int .i64 0, .int .i64 0, .int .i64 0, .int .i64 0, .int .i64 0, .int .i64 0, .int .i64 0, .int .i64 0, .int .i64 0, .int .i64 0, .int .i64 0, .int .i64 0, .int .i64 0, .int .i64 0, .int .i64 0, .int .i64 0], .agg #[.int .i64 0, .int .i64 0, .int .i64 0, .int .i64 0, .int .i64 0, .int .i64 0, .int .i64 0, .int .i64 0, .int .i64 0, .int .i64 0, .int .i64 0, .int .i64 0, .int .i64 0, .int .i64 0, .int .i64 0, .int .i64 0], .agg #[.int .i64 0, .int .i64 0, .int .i64 0, .int .i64 0, .int .i64 0, .int .i64 0, .int .i64 0, .int .i64 0, .int .i64 0, .int .i64 0, .int .i64 0, .int .i64 0, .int .i64 0, .int .i64 0, .int .i64 0, .int .i64 0]], []⟩ 8 (by kernel_rfl) (by kernel_rfl) (by kernel_rfl) (by kernel_rfl)) ?_
  intro W base args ds gs before hval0 hW hcnd _
  have hval : ∀ (j : Nat) t v, Try.f4.params[j]? = some t → args[j]? = some v → Value.okWide Try.prog W .any base t v := hval0
  have hW' := hW
  obtain ⟨p, q, hA0, hV, rfl, hfz, hnd⟩ := hW
  have hA : DataW.TrodAll enc Try.prog W 0 (fun _ => true) true Try.f4.params.toList args.toList ds p := hA0
  rw [Try.params4] at hA hval
  obtain ⟨v0, vs0, d0, ds0, p0, q0, hargs, rfl, rfl, h0, r0⟩ := trodAll_cons hA
  obtain ⟨v1, vs1, d1, ds1, p1, q1, rfl, rfl, rfl, h1, r1⟩ := trodAll_cons r0
  obtain ⟨v2, vs2, d2, ds2, p2, q2, rfl, rfl, rfl, h2, r2⟩ := trodAll_cons r1
  obtain ⟨rfl, rfl, rfl⟩ := trodAll_nil r2
  obtain rfl : args = #[v0, v1, v2] := by cases args; simp_all
  obtain ⟨rfl, rfl⟩ := trodVars_none hV
  have k0 := h0
  obtain ⟨fuel0, hf0⟩ := h0
  obtain ⟨V0, hl0, hb0, rfl, hp0⟩ := open_arr16 22 Try.underlying22 (by kernel_rfl) (hval 0 22 v0 rfl rfl) hf0
  have hq0 : p0 = [] := hp0
  subst hq0
  have k1 := h1
  obtain ⟨fuel1, hf1⟩ := h1
  obtain ⟨V1, hl1, hb1, rfl, hp1⟩ := open_arr16 22 Try.underlying22 (by kernel_rfl) (hval 1 22 v1 rfl rfl) hf1
  have hq1 : p1 = [] := hp1
  subst hq1
  have k2 := h2
  obtain ⟨fuel2, hf2⟩ := h2
  obtain ⟨V2, hl2, hb2, rfl, hp2⟩ := open_arr16 22 Try.underlying22 (by kernel_rfl) (hval 2 22 v2 rfl rfl) hf2
  have hq2 : p2 = [] := hp2
  subst hq2
  clear hA0 hval0
  refine (VectorOrders_walk V0 V1 V2 W hl0 hb0 hl1 hb1 hl2 hb2).mono fun e W' ⟨he, bel⟩ => ?_
  subst he
  exact ⟨_, rfl, _, _, _, [], _, [], hW', trodAll_mk1 (shut_bool Try.underlying4 _), (trodAll_cons_mk (Below.trod Try.laidOut (by kernel_rfl) (of_decide_eq_true (by kernel_rfl)) k0 bel (fun x hx => by cases hx)) (trodAll_cons_mk (Below.trod Try.laidOut (by kernel_rfl) (of_decide_eq_true (by kernel_rfl)) k1 bel (fun x hx => by cases hx)) (trodAll_cons_mk (Below.trod Try.laidOut (by kernel_rfl) (of_decide_eq_true (by kernel_rfl)) k2 bel (fun x hx => by cases hx)) trodAll_mk0))), rfl, bel.frame _, fun h => by cases h⟩

theorem over : Rows.vectorOrdersRow.holds Try.pinned (OpenSpec.ofChange Rows.vectorOrdersSpec) :=
  OpenClaim.holds_of_wide 4 Try.f4 rfl rfl rfl rfl rfl rfl rfl ⟨rfl, rfl, rfl, rfl, rfl⟩ rfl rfl rfl rfl rfl (by kernel_rfl) Try.func4 (by kernel_rfl)
    (of_decide_eq_true (by kernel_rfl)) (by unfold Func.isWrapper; first | (rw [if_pos (by decide +kernel)]; kernel_rfl) | (rw [if_neg (by decide +kernel)]; exact ⟨rfl, rfl⟩))
    (fun os started H enc _ => lifted os started H enc)

/-- the statement -/
theorem proved : Rows.VectorOrdersSaid := over
#print axioms proved
end Go.Proofs.Ytilnkfcggfaheaa.vectorOrders
