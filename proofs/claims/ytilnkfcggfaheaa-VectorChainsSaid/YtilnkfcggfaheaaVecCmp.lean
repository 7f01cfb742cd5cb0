/-
  The contract of vector.Compare.
-/
import Derived.Test.YtilnkfcggfaheaaVecCov
namespace Go.Proofs.Ytilnkfcggfaheaa
open Go.RowKit Go.Shelf

theorem mg_cov {U V : List Int} (hU : U.length = 16) : decide (mg U V = U) = cov U V := by
  rw [Bool.eq_iff_iff, decide_eq_true_iff]
  constructor
  · intro h
    refine cov_of fun i hi => ?_
    have := mg_get U V i hi
    rw [h] at this
    omega
  · intro h
    refine ext16 (mg_length _ _) hU fun i hi => ?_
    rw [mg_get _ _ _ hi]
    have := cov_at h i hi
    omega
theorem eq_cov {U V : List Int} (hU : U.length = 16) (hV : V.length = 16) : decide (U = V) = (cov U V && cov V U) := by
  rw [Bool.eq_iff_iff, decide_eq_true_iff, Bool.and_eq_true]
  constructor
  · rintro rfl
    exact ⟨cov_of fun i _ => Int.le_refl _, cov_of fun i _ => Int.le_refl _⟩
  · rintro ⟨h1, h2⟩
    refine ext16 hU hV fun i hi => ?_
    have := cov_at h1 i hi
    have := cov_at h2 i hi
    omega

theorem covers_R (U V : List Int) (hU : VecOk U) (hV : VecOk V) (R : Bool) (hR : cov U V = R) (w : World) :
    Calls Try.prog 25 #[.agg (ivs U), .agg (ivs V)] w fun e w' => e = .returned (.bool R) ∧ Below w.heap.size w w' := by
  rw [← hR, ← mg_cov hU.len]
  exact covers_any U V hU hV w

set_option maxRecDepth 100000 in
set_option maxHeartbeats 1000000 in
theorem Compare_any (U V : List Int) (hU : VecOk U) (hV : VecOk V) (w : World) :
    Calls Try.prog 11 #[.agg (ivs U), .agg (ivs V)] w fun e w' => e = .returned (.int .i64 (cmpv U V)) ∧ Below w.heap.size w w' := by
  have hx2 : ((w.alloc (.cells (ivs U) 25)).alloc (.cells (ivs V) 25)).heap[w.heap.size]? = some (.cells (ivs U) 25 (0, 0)) := heap_alloc2_old w _ _
  have hx3 : ((w.alloc (.cells (ivs U) 25)).alloc (.cells (ivs V) 25)).heap[w.heap.size + 1]? = some (.cells (ivs V) 25 (0, 0)) := heap_alloc2_new w _ _
  have hb : Below w.heap.size w ((w.alloc (.cells (ivs U) 25)).alloc (.cells (ivs V) 25)) := ((Below.refl _ w).alloc (Nat.le_refl _) _).alloc (by simp) _
  generalize hW : ((w.alloc (.cells (ivs U) 25)).alloc (.cells (ivs V) 25)) = W at hx2 hx3 hb
  have HE := Lib.hid (eql_vec U V hU.len hV.len)
  have HC := Lib.hid (eq_cov hU.len hV.len)
  have HG := Lib.hid (run_eqGuard_agg (P := Try.prog) (hm := Try.eqTypeVec))
  have HU := Lib.hid hU
  have HV := Lib.hid hV
  clear hU hV
  obtain ⟨E, hE⟩ : ∃ b, decide (U = V) = b := ⟨_, rfl⟩
  obtain ⟨X, hX⟩ : ∃ b, cov U V = b := ⟨_, rfl⟩
  obtain ⟨Y, hY⟩ : ∃ b, cov V U = b := ⟨_, rfl⟩
  have HX := Lib.hid (And.intro hX hY)
  have HEX := Lib.hid (show E = (X && Y) by rw [← hE, ← hX, ← hY]; exact HC.out)
  have HR := Lib.hid (show cmpv U V = if X && Y then 0 else if Y then -1 else if X then 1 else 2 by unfold cmpv; rw [hX, hY])
  have HE' := Lib.hid (show ∀ w, (Op.equalIn 10000 25 (.agg (ivs U)) (.agg (ivs V))).run Try.prog w = .ok E w by rw [← hE]; exact HE.out)
  clear hX hY hE
  have heq := HE'.out
  go_enter Try.func11, Try.ntmps11
  rcases E with _ | _
  · go_wp2_with (first | (refine wpList_load_row rfl 25 (.tmp 2) rfl w.heap.size rfl 25 (ivs U) (0, 0) _ hx2 Try.underlying25 rfl (vec_info HU.out.len) ?_) | (refine wpList_load_row rfl 25 (.tmp 3) rfl (w.heap.size + 1) rfl 25 (ivs V) (0, 0) _ hx3 Try.underlying25 rfl (vec_info HV.out.len) ?_))
    refine (covers_R V U HV.out HU.out Y HX.out.2 _).mono ?_
    rintro e w1 ⟨rfl, h1⟩
    have hx2 := (h1.block _ (Array.getElem?_eq_some_iff.1 hx2).1).trans hx2
    have hx3 := (h1.block _ (Array.getElem?_eq_some_iff.1 hx3).1).trans hx3
    have hb := hb.trans (h1.mono hb.size)
    rcases Y with _ | _
    · go_wp2_with (first | (refine wpList_load_row rfl 25 (.tmp 2) rfl w.heap.size rfl 25 (ivs U) (0, 0) _ hx2 Try.underlying25 rfl (vec_info HU.out.len) ?_) | (refine wpList_load_row rfl 25 (.tmp 3) rfl (w.heap.size + 1) rfl 25 (ivs V) (0, 0) _ hx3 Try.underlying25 rfl (vec_info HV.out.len) ?_))
      refine (covers_R U V HU.out HV.out X HX.out.1 _).mono ?_
      rintro e w2 ⟨rfl, h2⟩
      have hx2 := (h2.block _ (Array.getElem?_eq_some_iff.1 hx2).1).trans hx2
      have hx3 := (h2.block _ (Array.getElem?_eq_some_iff.1 hx3).1).trans hx3
      have hb := hb.trans (h2.mono hb.size)
      rcases X with _ | _
      · go_wp2
        go_ret
        exact ⟨by rw [HR.out]; rfl, hb⟩
      · go_wp2
        go_ret
        exact ⟨by rw [HR.out]; rfl, hb⟩
    · have hX : X = false := by have := HEX.out; simpa using this
      subst hX
      go_wp2
      go_ret
      exact ⟨by rw [HR.out]; rfl, hb⟩
  · have hXY : X = true ∧ Y = true := by have := HEX.out; simpa using this
    obtain ⟨rfl, rfl⟩ := hXY
    go_wp2_with (first | (refine wpList_load_row rfl 25 (.tmp 2) rfl w.heap.size rfl 25 (ivs U) (0, 0) _ hx2 Try.underlying25 rfl (vec_info HU.out.len) ?_) | (refine wpList_load_row rfl 25 (.tmp 3) rfl (w.heap.size + 1) rfl 25 (ivs V) (0, 0) _ hx3 Try.underlying25 rfl (vec_info HV.out.len) ?_))
    go_ret
    exact ⟨by rw [HR.out]; rfl, hb⟩

end Go.Proofs.Ytilnkfcggfaheaa
