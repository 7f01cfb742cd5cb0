/-
  The contract of the reference's Merge.
-/
import Derived.Test.YtilnkfcggfaheaaVecGood
namespace Go.Proofs.Ytilnkfcggfaheaa
open Go.RowKit Go.Shelf

theorem run_zero_arr (w : World) : (zeroValue 22).run Try.prog w = .ok (.agg vz) w := by kernel_rfl

def mgTo (U V : List Int) : Nat → List Int
  | 0 => U
  | k + 1 => (mgTo U V k).set k (max (U[k]?.getD 0) (V[k]?.getD 0))
theorem mgTo_length (U V : List Int) : ∀ k, (mgTo U V k).length = U.length
  | 0 => rfl
  | k + 1 => by unfold mgTo; rw [List.length_set, mgTo_length U V k]
theorem mgTo_get (U V : List Int) (hU : U.length = 16) : ∀ k, k ≤ 16 → ∀ i, i < 16 → (mgTo U V k)[i]?.getD 0 = if i < k then max (U[i]?.getD 0) (V[i]?.getD 0) else U[i]?.getD 0
  | 0, _, i, _ => by rw [if_neg (by omega)]; rfl
  | k + 1, hk, i, hi => by
    have ih := mgTo_get U V hU k (by omega) i hi
    unfold mgTo
    rw [List.getElem?_set]
    by_cases e : k = i
    · subst e
      rw [if_pos rfl, if_pos (by rw [mgTo_length, hU]; omega), if_pos (by omega)]
      rfl
    · rw [if_neg e, ih]
      by_cases h : i < k
      · rw [if_pos h, if_pos (by omega)]
      · rw [if_neg h, if_neg (by omega)]
theorem mgTo_all {U V : List Int} (hU : U.length = 16) : mgTo U V 16 = mg U V :=
  ext16 (by rw [mgTo_length, hU]) (mg_length _ _) fun i hi => by rw [mgTo_get U V hU 16 (by omega) i hi, if_pos hi, mg_get _ _ _ hi]
theorem mgTo_skip {U V : List Int} (hU : U.length = 16) {k : Nat} (hk : k < 16) (h : V[k]?.getD 0 ≤ U[k]?.getD 0) : mgTo U V (k + 1) = mgTo U V k :=
  ext16 (by rw [mgTo_length, hU]) (by rw [mgTo_length, hU]) fun i hi => by
    rw [mgTo_get U V hU (k + 1) (by omega) i hi, mgTo_get U V hU k (by omega) i hi]
    by_cases e : i = k
    · subst e; rw [if_pos (by omega), if_neg (by omega)]; omega
    · by_cases h' : i < k
      · rw [if_pos h', if_pos (by omega)]
      · rw [if_neg h', if_neg (by omega)]

set_option maxRecDepth 100000 in
set_option maxHeartbeats 1000000 in
theorem rMerge_any (U V : List Int) (hU : U.length = 16) (hV : V.length = 16) (w : World) :
    Calls Try.prog 15 #[.agg (ivs U), .agg (ivs V)] w fun e w' => e = .returned (.agg (ivs (mg U V))) ∧ Below w.heap.size w w' := by
  have hz := run_zero_arr
  obtain ⟨W, hW⟩ : ∃ W, ((w.alloc (.cells (ivs U) 22)).alloc (.cells (ivs V) 22)).alloc (.cells vz 22) = W := ⟨_, rfl⟩
  have hx1 : W.heap[w.heap.size]? = some (.cells (ivs U) 22 (0, 0)) := by
    rw [← hW]; exact (((Below.refl _ ((w.alloc (.cells (ivs U) 22)).alloc (.cells (ivs V) 22))).alloc (Nat.le_refl _) (.cells vz 22)).block _ (by simp; omega)).trans (heap_alloc2_old w _ _)
  have hx2 : W.heap[w.heap.size + 1]? = some (.cells (ivs V) 22 (0, 0)) := by
    rw [← hW]; exact (((Below.refl _ ((w.alloc (.cells (ivs U) 22)).alloc (.cells (ivs V) 22))).alloc (Nat.le_refl _) (.cells vz 22)).block _ (by simp)).trans (heap_alloc2_new w _ _)
  have hx3 : W.heap[w.heap.size + 1 + 1]? = some (.cells vz 22 (0, 0)) := by
    rw [← hW]; have := heap_alloc_new ((w.alloc (.cells (ivs U) 22)).alloc (.cells (ivs V) 22)) (Obj.cells vz 22); simpa using this
  have hb : Below w.heap.size w W := by
    rw [← hW]; exact (((Below.refl _ w).alloc (Nat.le_refl _) _).alloc (by simp) _).alloc (by simp; omega) _
  go_enter Try.func15, Try.ntmps15
  go_wp2

  go_loopw [5, 6] (fun _ i wr => ∃ k : Nat, k ≤ 16 ∧ i = .int .i64 k ∧ wr.heap[w.heap.size]? = some (.cells (ivs (mgTo U V k)) 22 (0, 0)) ∧ wr.heap[w.heap.size + 1]? = some (.cells (ivs V) 22 (0, 0)) ∧ wr.heap[w.heap.size + 1 + 1]? = some (.cells vz 22 (0, 0)) ∧ Below w.heap.size w wr) (fun _ i _ => 16 - (intOf i).toNat)
  case atStart => exact ⟨0, by omega, rfl, hx1, hx2, hx3, hb⟩
  case round =>
    clear hx1 hx2 hx3 hb
    obtain ⟨k, hk, rfl, hx1, hx2, hx3, hb⟩ := hrel
    by_cases hlt : k < 16
    · have hg := mgTo_get U V hU k (by omega) k hlt
      rw [if_neg (by omega)] at hg
      have c1 : wr.cell? ⟨w.heap.size, k, none⟩ = some (.int .i64 (U[k]?.getD 0)) := by
        rw [cell_of_row _ _ _ _ _ _ hx1, ivs_get _ _ (by rw [mgTo_length, hU]; exact hlt), hg]
      have c2 : wr.cell? ⟨w.heap.size + 1, k, none⟩ = some (.int .i64 (V[k]?.getD 0)) := by
        rw [cell_of_row _ _ _ _ _ _ hx2, ivs_get _ _ (by rw [hV]; exact hlt)]
      have f1 := frozen_of_row wr w.heap.size k _ _ hx1
      have HX := Lib.hid (And.intro hx1 (And.intro hx2 (And.intro hx3 hb)))
      have HUV := Lib.hid (And.intro hU hV)
      clear hx1 hx2 hx3 hb hg
      have hlz : (k : Int) < 16 := by omega
      by_cases hc : V[k]?.getD 0 ≤ U[k]?.getD 0
      · have HN := Lib.hid (mgTo_skip hU hlt hc)
        clear hU hV
        generalize V[k]?.getD 0 = x at c2 hc
        generalize U[k]?.getD 0 = y at c1 hc
        have t1 : decide (x > y) = false := by simp; omega
        go_wp2
        go_quiet (fail)
        go_wp2
        go_roundw
        case rel => exact ⟨k + 1, by omega, by go_num, by rw [HN.out]; exact HX.out.1, HX.out.2.1, HX.out.2.2.1, below_drewN HX.out.2.2.2 _⟩
        case measure => simp [intOf]; omega
      · have HN := Lib.hid (show mgTo U V (k + 1) = (mgTo U V k).set k (V[k]?.getD 0) by
          show (mgTo U V k).set k (max (U[k]?.getD 0) (V[k]?.getD 0)) = _
          rw [show max (U[k]?.getD 0) (V[k]?.getD 0) = V[k]?.getD 0 by omega])
        clear hU hV
        generalize V[k]?.getD 0 = x at c2 hc HN
        generalize U[k]?.getD 0 = y at c1 hc
        have t1 : decide (x > y) = true := by simp; omega
        go_wp2
        go_quiet (fail)
        have c2' : (wr.drewN nq).cell? ⟨w.heap.size + 1, k, none⟩ = some (.int .i64 x) := by simpa using c2
        have c1' : (wr.drewN nq).cell? ⟨w.heap.size, k, none⟩ = some (.int .i64 y) := by simpa using c1
        have f1' : (wr.drewN nq).frozen? ⟨w.heap.size, k, none⟩ = false := by simpa using f1
        go_wp2
        go_roundw
        case rel =>
          refine ⟨k + 1, by omega, by go_num, ?_, ?_, ?_, ?_⟩
          · rw [HN.out, ← ivs_set]
            exact heap_setCell_same _ _ _ _ _ _ HX.out.1
          · exact (Below.heap_setCell _ _ _ _ (by simp)).trans HX.out.2.1
          · exact (Below.heap_setCell _ _ _ _ (by simp; omega)).trans HX.out.2.2.1
          · exact (below_drewN HX.out.2.2.2 _).setCell (p := ⟨w.heap.size, k, none⟩) (Nat.le_refl _) _
        case measure => simp [intOf]; omega
    · obtain rfl : k = 16 := by omega
      rw [mgTo_all hU] at hx1
      have hM := mg_length U V
      have HUV := Lib.hid (And.intro hU hV)
      clear hU hV
      generalize hMe : mg U V = M at hx1 hM
      have HMe := Lib.hid hMe
      clear hMe
      have hvzs : vz.size = (ivs M).size := by rw [ivs_size, hM]; rfl
      have hai := arr_info hM
      have hfin := setRow_heap wr (w.heap.size + 1 + 1) _ (ivs M) _ _ hx3
      go_wp2_with (first | (refine wpList_load_row rfl 22 (.tmp 2) rfl w.heap.size rfl 22 (ivs M) (0, 0) _ hx1 Try.underlying22 rfl hai ?_) | (refine wpList_store_row rfl 22 (.tmp 4) (.tmp 22) rfl (w.heap.size + 1 + 1) 22 vz (ivs M) rfl rfl hx3 hai hvzs (ivs_one M) ?_))
      refine bodyPost_ret (results_cell_row (p := 4) rfl _ _ (w.heap.size + 1 + 1) _ _ _ _ rfl hfin Try.underlying22 rfl hai) rfl ?_
      exact ⟨by rw [HMe.out], hb.trans (below_setRow (by omega) _)⟩

end Go.Proofs.Ytilnkfcggfaheaa
