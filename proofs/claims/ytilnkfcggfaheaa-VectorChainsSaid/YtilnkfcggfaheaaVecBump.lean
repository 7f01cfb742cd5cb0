/-
  The contract of Bump.
-/
import Derived.Test.YtilnkfcggfaheaaVecCmp
namespace Go.Proofs.Ytilnkfcggfaheaa
open Go.RowKit Go.Shelf

theorem results_cell_tmp {P : Program} {fn : Func} {p s : Tmp} {ty : TypeId} (h : fn.results = #[.cell p ty, .tmp s]) (tmps : Array Value) (w : World) (g : Nat) (t : TypeId) (cs : Array Value) (fr : Nat × Nat) (d : TypeDesc)
    (hp : tmps.getD p undef = .pointer (some ⟨g, 0, none⟩)) (hg : w.heap[g]? = some (.cells cs t fr))
    (hu : P.underlying ty = some d) (hd : (match d with | .struct _ | .array _ _ => true | _ => false) = true) (hi : (P.info? ty).map (·.size) = some cs.size) :
    (results fn tmps).run P w = .ok (.tuple #[.agg cs, tmps.getD s undef]) w := by
  have hp' : tmps[p]?.getD undef = .pointer (some ⟨g, 0, none⟩) := by simpa using hp
  simp [results, h, hp', asAddr, run_loadVar_row w g t ty cs fr d hg hu hd hi]

/-- the vector with one number one greater -/
def bump (V : List Int) (r : Nat) : List Int := V.set r (V[r]?.getD 0 + 1)
theorem bump_length (V : List Int) (r : Nat) : (bump V r).length = V.length := by simp [bump]
theorem bump_get (V : List Int) (r : Nat) (h : r < V.length) (i : Nat) : (bump V r)[i]?.getD 0 = if i = r then V[r]?.getD 0 + 1 else V[i]?.getD 0 := by
  unfold bump
  rw [List.getElem?_set]
  by_cases e : r = i
  · subst e; rw [if_pos rfl, if_pos h, if_pos rfl]; rfl
  · rw [if_neg e, if_neg (Ne.symm e)]

set_option maxRecDepth 100000 in
set_option maxHeartbeats 1000000 in
theorem Bump_ok (V : List Int) (hV : VecOk V) (r : Nat) (hr : r < 16) (hlt : V[r]?.getD 0 < 1099511627776) (w : World) :
    Calls Try.prog 10 #[.agg (ivs V), .int .i64 (r : Int)] w fun e w' => e = .returned (.tuple #[.agg (ivs (bump V r)), .int .i64 0]) ∧ Below w.heap.size w w' := by
  have hz := run_zero_vec
  have hl := hV.lo r
  have c1 : ((w.alloc (.cells (ivs V) 25)).alloc (.cells vz 25)).cell? ⟨w.heap.size, r, none⟩ = some (.int .i64 (V[r]?.getD 0)) := by
    rw [cell_of_row _ _ _ _ _ _ (heap_alloc2_old w _ _), ivs_get _ _ (by rw [hV.len]; exact hr)]
  have f1 := frozen_of_row ((w.alloc (.cells (ivs V) 25)).alloc (.cells vz 25)) w.heap.size r _ _ (heap_alloc2_old w _ _)
  have hh1 := heap_alloc2_old w (.cells (ivs V) 25) (.cells vz 25)
  have hh2 := heap_alloc2_new w (.cells (ivs V) 25) (.cells vz 25)
  have hb : Below w.heap.size w ((w.alloc (.cells (ivs V) 25)).alloc (.cells vz 25)) := ((Below.refl _ w).alloc (Nat.le_refl _) _).alloc (by simp) _
  have HQ := Lib.hid (show (ivs V).setIfInBounds r (.int .i64 (V[r]?.getD 0 + 1)) = ivs (bump V r) from ivs_set V r _)
  have hBl : (bump V r).length = 16 := by rw [bump_length, hV.len]
  have HV := Lib.hid hV
  clear hV
  generalize hBe : bump V r = B at HQ hBl
  clear hBe
  generalize V[r]?.getD 0 = x at *
  have t1 : decide ((r : Int) < 0) = false := by simp
  have t2 : decide ((r : Int) ≥ 16) = false := by simp; omega
  have t3 : decide (x ≥ 1099511627776) = false := by simp; omega
  generalize hW : (w.alloc (.cells (ivs V) 25)).alloc (.cells vz 25) = W at c1 f1 hh1 hh2 hb
  have hs1 := heap_setCell_same W w.heap.size r _ _ (.int .i64 (x + 1)) hh1
  rw [HQ.out] at hs1
  have hs2 := (Below.heap_setCell W ⟨w.heap.size, r, none⟩ (.int .i64 (x + 1)) (w.heap.size + 1) (by simp)).trans hh2
  have hb2 : Below w.heap.size w (W.setCell ⟨w.heap.size, r, none⟩ (.int .i64 (x + 1))) := hb.setCell (p := ⟨w.heap.size, r, none⟩) (Nat.le_refl _) _
  have hvzs : vz.size = (ivs B).size := by rw [ivs_size, hBl]; rfl
  have hbi := vec_info hBl
  have hb3 := hb2.trans (below_setRow (g := w.heap.size + 1) (Nat.le_succ _) (ivs B))
  have hfin := setRow_heap (W.setCell ⟨w.heap.size, r, none⟩ (.int .i64 (x + 1))) (w.heap.size + 1) _ (ivs B) _ _ hs2
  go_enter Try.func10, Try.ntmps10
  clear HQ
  go_wp2_with (first | (refine wpList_load_row rfl 25 (.tmp 2) rfl w.heap.size rfl 25 (ivs B) (0, 0) _ hs1 Try.underlying25 rfl hbi ?_) | (refine wpList_store_row rfl 25 (.tmp 4) (.tmp 24) rfl (w.heap.size + 1) 25 vz (ivs B) rfl rfl hs2 hbi hvzs (ivs_one B) ?_))
  refine bodyPost_ret (results_cell_tmp (p := 4) (s := 5) rfl _ _ (w.heap.size + 1) _ _ _ _ rfl hfin Try.underlying25 rfl hbi) rfl ?_
  exact ⟨rfl, hb3⟩

theorem run_build_zero (w : World) : (Instr.build 25 #[]).run Try.prog w = .ok (.agg vz) w := by kernel_rfl

section
variable (V : List Int) (hV : V.length = 16) (w : World)
set_option maxRecDepth 100000 in
set_option maxHeartbeats 1000000 in
include hV in
theorem Bump_no (r : Int) (h : r < 0 ∨ 16 ≤ r ∨ ∃ k : Nat, k < 16 ∧ r = (k : Int) ∧ 1099511627776 ≤ V[k]?.getD 0) :
    Calls Try.prog 10 #[.agg (ivs V), .int .i64 r] w fun e w' => e = .returned (.tuple #[.agg vz, .int .i64 1]) ∧ Below w.heap.size w w' := by
  have hz := run_zero_vec
  have hbz := run_build_zero
  have hh2 := heap_alloc2_new w (.cells (ivs V) 25) (.cells vz 25)
  have hh1 := heap_alloc2_old w (.cells (ivs V) 25) (.cells vz 25)
  have hb : Below w.heap.size w ((w.alloc (.cells (ivs V) 25)).alloc (.cells vz 25)) := ((Below.refl _ w).alloc (Nat.le_refl _) _).alloc (by simp) _
  have hb3 := hb.trans (below_setRow (g := w.heap.size + 1) (Nat.le_succ _) vz)
  have hfin := setRow_heap _ (w.heap.size + 1) _ vz _ _ hh2
  have hbi : (Try.prog.info? 25).map (·.size) = some vz.size := vec_info (V := zeros) rfl
  have h1 : vz.all (·.oneCell') = true := ivs_one zeros
  have HH := Lib.hid hh1
  clear hh1
  generalize hW : (w.alloc (.cells (ivs V) 25)).alloc (.cells vz 25) = W at *
  rcases h with h | h | ⟨k, hk, rfl, h⟩
  · have t1 : decide (r < 0) = true := by simp; omega
    go_enter Try.func10, Try.ntmps10
    go_wp2_with (first | (refine wpList_store_row rfl 25 (.tmp 4) (.tmp 18) rfl (w.heap.size + 1) 25 vz vz rfl rfl hh2 hbi rfl h1 ?_))
    refine bodyPost_ret (results_cell_tmp (p := 4) (s := 5) rfl _ _ (w.heap.size + 1) _ _ _ _ rfl hfin Try.underlying25 rfl hbi) rfl ?_
    exact ⟨rfl, hb3⟩
  · have t1 : decide (r < 0) = false := by simp; omega
    have t2 : decide (r ≥ 16) = true := by simp; omega
    go_enter Try.func10, Try.ntmps10
    go_wp2_with (first | (refine wpList_store_row rfl 25 (.tmp 4) (.tmp 18) rfl (w.heap.size + 1) 25 vz vz rfl rfl hh2 hbi rfl h1 ?_))
    refine bodyPost_ret (results_cell_tmp (p := 4) (s := 5) rfl _ _ (w.heap.size + 1) _ _ _ _ rfl hfin Try.underlying25 rfl hbi) rfl ?_
    exact ⟨rfl, hb3⟩
  · have c1 : W.cell? ⟨w.heap.size, k, none⟩ = some (.int .i64 (V[k]?.getD 0)) := by
      rw [cell_of_row _ _ _ _ _ _ HH.out, ivs_get _ _ (by rw [hV]; exact hk)]
    clear hV
    generalize V[k]?.getD 0 = x at *
    have t1 : decide ((k : Int) < 0) = false := by simp
    have t2 : decide ((k : Int) ≥ 16) = false := by simp; omega
    have t3 : decide (x ≥ 1099511627776) = true := by simp; omega
    go_enter Try.func10, Try.ntmps10
    go_wp2_with (first | (refine wpList_store_row rfl 25 (.tmp 4) (.tmp 18) rfl (w.heap.size + 1) 25 vz vz rfl rfl hh2 hbi rfl h1 ?_))
    refine bodyPost_ret (results_cell_tmp (p := 4) (s := 5) rfl _ _ (w.heap.size + 1) _ _ _ _ rfl hfin Try.underlying25 rfl hbi) rfl ?_
    exact ⟨rfl, hb3⟩
end

end Go.Proofs.Ytilnkfcggfaheaa
