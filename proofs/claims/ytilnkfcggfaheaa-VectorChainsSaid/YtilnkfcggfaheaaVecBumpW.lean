/-
  The walk of VectorBumps.
-/
import Derived.Test.YtilnkfcggfaheaaVecAwake
namespace Go.Proofs.Ytilnkfcggfaheaa
open Go.RowKit Go.Shelf

theorem rGood_R (V : List Int) (hV : V.length = 16) (hb : ∀ i : Nat, -9223372036854775808 ≤ V[i]?.getD 0 ∧ V[i]?.getD 0 ≤ 9223372036854775807) (R : Bool) (hR : good V = R) (w : World) :
    Calls Try.prog 9 #[.agg (ivs V)] w fun e w' => e = .returned (.bool R) ∧ Below w.heap.size w w' := by
  rw [← hR]; exact rGood_any V hV hb w

theorem cmp_bump {V : List Int} (hV : V.length = 16) {r : Nat} (hr : r < 16) : cmpv V (bump V r) = -1 := by
  have h1 : cov V (bump V r) = false := cov_no hr (by rw [bump_get _ _ (by omega), if_pos rfl]; omega)
  have h2 : cov (bump V r) V = true := cov_of fun i hi => by rw [bump_get _ _ (by omega)]; split <;> rename_i h <;> (try subst h) <;> omega
  unfold cmpv
  rw [h1, h2]
  rfl

section
variable (V : List Int) (hV : V.length = 16) (hb : ∀ i : Nat, -9223372036854775808 ≤ V[i]?.getD 0 ∧ V[i]?.getD 0 ≤ 9223372036854775807) (r : Int) (hr1 : -9223372036854775808 ≤ r) (hr2 : r ≤ 9223372036854775807) (w : World)
set_option maxRecDepth 100000 in
set_option maxHeartbeats 1000000 in
include hV hb in
theorem bumps_bad (hg : good V = false) : Calls Try.prog 3 #[.agg (ivs V), .int .i64 r] w fun e w' => e = .returned (.bool true) ∧ Below w.heap.size w w' := by
  have hx := heap_alloc_new w (Obj.cells (ivs V) 22)
  have hbl := (Below.refl _ w).alloc (Nat.le_refl _) (.cells (ivs V) 22)
  have H := Lib.hid (And.intro hV hb)
  clear hV hb
  generalize hW : w.alloc (Obj.cells (ivs V) 22) = W at hx hbl
  go_enter Try.func3, Try.ntmps3
  go_wp2_with (fail)
  refine (awake_any _).mono ?_
  rintro e w1 ⟨rfl, h1⟩
  have hx1 := (h1.block _ (Array.getElem?_eq_some_iff.1 hx).1).trans hx
  go_wp2_with (first | (refine wpList_load_rowg (by rfl) 22 (.tmp 2) rfl w.heap.size rfl 22 (ivs V) (0, 0) _ hx1 Try.underlying22 rfl (arr_info H.out.1) ?_))
  refine (rGood_R V H.out.1 H.out.2 false hg _).mono ?_
  rintro e w2 ⟨rfl, h2⟩
  go_wp2_with (fail)
  refine (awake_any _).mono ?_
  rintro e w3 ⟨rfl, h3⟩
  go_wp2
  go_ret
  have hb1 := hbl.trans (h1.mono hbl.size)
  have hb2 := hb1.trans (h2.mono hb1.size)
  exact ⟨rfl, hb2.trans (h3.mono hb2.size)⟩

set_option maxRecDepth 100000 in
set_option maxHeartbeats 1000000 in
include hV hb hr1 hr2 in
theorem bumps_no (hg : good V = true) (h : r < 0 ∨ 16 ≤ r ∨ ∃ k : Nat, k < 16 ∧ r = (k : Int) ∧ 1099511627776 ≤ V[k]?.getD 0) :
    Calls Try.prog 3 #[.agg (ivs V), .int .i64 r] w fun e w' => e = .returned (.bool true) ∧ Below w.heap.size w w' := by
  have hx := heap_alloc_new w (Obj.cells (ivs V) 22)
  have hbl := (Below.refl _ w).alloc (Nat.le_refl _) (.cells (ivs V) 22)
  have H := Lib.hid (And.intro hV hb)
  clear hV hb
  generalize hW : w.alloc (Obj.cells (ivs V) 22) = W at hx hbl
  go_enter Try.func3, Try.ntmps3
  go_wp2_with (fail)
  refine (awake_any _).mono ?_
  rintro e w1 ⟨rfl, h1⟩
  have hx1 := (h1.block _ (Array.getElem?_eq_some_iff.1 hx).1).trans hx
  go_wp2_with (first | (refine wpList_load_rowg (by rfl) 22 (.tmp 2) rfl w.heap.size rfl 22 (ivs V) (0, 0) _ hx1 Try.underlying22 rfl (arr_info H.out.1) ?_))
  refine (rGood_R V H.out.1 H.out.2 true hg _).mono ?_
  rintro e w2 ⟨rfl, h2⟩
  have hb1 := hbl.trans (h1.mono hbl.size)
  have hb2 := hb1.trans (h2.mono hb1.size)
  have hx2 := (h2.block _ (Array.getElem?_eq_some_iff.1 hx1).1).trans hx1
  clear hx1 hx hb1 h1 h2 hbl
  go_wp2_with (first | (refine wpList_load_row rfl 22 (.tmp 2) rfl w.heap.size rfl 22 (ivs V) (0, 0) _ hx2 Try.underlying22 rfl (arr_info H.out.1) ?_))
  refine (Bump_no V H.out.1 _ r h).mono ?_
  rintro e w3 ⟨rfl, h3⟩
  have hb3 := hb2.trans (h3.mono hb2.size)
  have hx3 := (h3.block _ (Array.getElem?_eq_some_iff.1 hx2).1).trans hx2
  clear hb2 hx2 h3
  have hz := run_zero_vec
  have hbz := run_build_zero
  have hbi : (Try.prog.info? 25).map (·.size) = some vz.size := vec_info (V := zeros) rfl
  have ho1 : vz.all (·.oneCell') = true := ivs_one zeros
  have hn1 := heap_alloc_new w3 (Obj.cells vz 25)
  have heq : ∀ w, (Op.equalIn 10000 25 (.agg vz) (.agg vz)).run Try.prog w = .ok true w := fun w => eql_vec zeros zeros rfl rfl w
  have heg := run_eqGuard_agg (P := Try.prog) (hm := Try.eqTypeVec)
  have hb4 := hb3.alloc hb3.size (.cells vz 25)
  have hx4 := (((Below.refl _ w3).alloc (Nat.le_refl _) (.cells vz 25)).block _ (Array.getElem?_eq_some_iff.1 hx3).1).trans hx3
  clear hx3 hb3
  rcases h with h | h | ⟨k, hk, rfl, h⟩
  · have t1 : decide (r < 0) = true := by simp; omega
    go_wp2_with (first | (refine wpList_store_row rfl 25 (.tmp 5) (.tmp 20) rfl w3.heap.size 25 vz vz rfl rfl hn1 hbi rfl ho1 ?_; rw [setRow_new]) | (refine wpList_load_rowg (by rfl) 25 (.tmp 5) rfl w3.heap.size rfl 25 vz (0, 0) _ hn1 Try.underlying25 rfl hbi ?_))
    go_ret
    exact ⟨rfl, hb4⟩
  · have t1 : decide (r < 0) = false := by simp; omega
    have t2 : decide (r > 15) = true := by simp; omega
    go_wp2_with (first | (refine wpList_store_row rfl 25 (.tmp 5) (.tmp 20) rfl w3.heap.size 25 vz vz rfl rfl hn1 hbi rfl ho1 ?_; rw [setRow_new]) | (refine wpList_load_rowg (by rfl) 25 (.tmp 5) rfl w3.heap.size rfl 25 vz (0, 0) _ hn1 Try.underlying25 rfl hbi ?_))
    go_ret
    exact ⟨rfl, hb4⟩
  · have hk2 : V[k]?.getD 0 = 1099511627776 := by have := (good_at hg k hk).2; omega
    have c1 : (w3.alloc (Obj.cells vz 25)).cell? ⟨w.heap.size, k, none⟩ = some (.int .i64 1099511627776) := by
      rw [cell_of_row _ _ _ _ _ _ hx4, ivs_get _ _ (by rw [H.out.1]; exact hk), hk2]
    have t1 : decide ((k : Int) < 0) = false := by simp
    have t2 : decide ((k : Int) > 15) = false := by simp; omega
    clear hg
    go_wp2_with (first | (refine wpList_store_row rfl 25 (.tmp 5) (.tmp 20) rfl w3.heap.size 25 vz vz rfl rfl hn1 hbi rfl ho1 ?_; rw [setRow_new]) | (refine wpList_load_rowg (by rfl) 25 (.tmp 5) rfl w3.heap.size rfl 25 vz (0, 0) _ hn1 Try.underlying25 rfl hbi ?_))
    go_ret
    exact ⟨rfl, hb4⟩

set_option maxRecDepth 100000 in
set_option maxHeartbeats 1000000 in
include hV hb in
theorem bumps_ok (k : Nat) (hk : k < 16) (hlt : V[k]?.getD 0 < 1099511627776) (hg : good V = true) :
    Calls Try.prog 3 #[.agg (ivs V), .int .i64 (k : Int)] w fun e w' => e = .returned (.bool true) ∧ Below w.heap.size w w' := by
  have hx := heap_alloc_new w (Obj.cells (ivs V) 22)
  have hbl := (Below.refl _ w).alloc (Nat.le_refl _) (.cells (ivs V) 22)
  have hok := good_ok hV hg
  have hBok := bump_ok hok hk hlt
  have HG := Lib.hid (bump_get V k (by omega))
  have HC := Lib.hid (cmp_bump hV hk)
  obtain ⟨B, hB⟩ : ∃ B, bump V k = B := ⟨_, rfl⟩
  rw [hB] at hBok HG HC
  have H := Lib.hid (And.intro hV hb)
  have HB := Lib.hid hB
  have HO := Lib.hid (And.intro hok hBok)
  have HLT := Lib.hid hlt
  clear hV hb hB hok hBok hlt
  generalize hW : w.alloc (Obj.cells (ivs V) 22) = W at hx hbl
  go_enter Try.func3, Try.ntmps3
  go_wp2_with (fail)
  refine (awake_any _).mono ?_
  rintro e w1 ⟨rfl, h1⟩
  have hx1 := (h1.block _ (Array.getElem?_eq_some_iff.1 hx).1).trans hx
  go_wp2_with (first | (refine wpList_load_rowg (by rfl) 22 (.tmp 2) rfl w.heap.size rfl 22 (ivs V) (0, 0) _ hx1 Try.underlying22 rfl (arr_info H.out.1) ?_))
  refine (rGood_R V H.out.1 H.out.2 true hg _).mono ?_
  rintro e w2 ⟨rfl, h2⟩
  have hb1 := hbl.trans (h1.mono hbl.size)
  have hb2 := hb1.trans (h2.mono hb1.size)
  have hx2 := (h2.block _ (Array.getElem?_eq_some_iff.1 hx1).1).trans hx1
  clear hx1 hx hb1 h1 h2 hbl hg
  go_wp2_with (first | (refine wpList_load_row rfl 22 (.tmp 2) rfl w.heap.size rfl 22 (ivs V) (0, 0) _ hx2 Try.underlying22 rfl (arr_info H.out.1) ?_))
  refine (Bump_R V HO.out.1 k hk HLT.out B HB.out _).mono ?_
  rintro e w3 ⟨rfl, h3⟩
  have hb3 := hb2.trans (h3.mono hb2.size)
  have hx3 := (h3.block _ (Array.getElem?_eq_some_iff.1 hx2).1).trans hx2
  clear hb2 hx2 h3
  have hz := run_zero_vec
  have hbi := vec_info HO.out.2.len
  have hvz2 : vz.size = (ivs B).size := by rw [ivs_size, HO.out.2.len]; rfl
  have hn1 := heap_alloc_new w3 (Obj.cells vz 25)
  have hn2 := heap_alloc_new w3 (Obj.cells (ivs B) 25)
  have hb4 := hb3.alloc hb3.size (.cells (ivs B) 25)
  have hx4 := (((Below.refl _ w3).alloc (Nat.le_refl _) (.cells (ivs B) 25)).block _ (Array.getElem?_eq_some_iff.1 hx3).1).trans hx3
  have hx5 := (((Below.refl _ w3).alloc (Nat.le_refl _) (.cells vz 25)).block _ (Array.getElem?_eq_some_iff.1 hx3).1).trans hx3
  clear hx3 hb3
  have c1 : (w3.alloc (Obj.cells (ivs B) 25)).cell? ⟨w.heap.size, k, none⟩ = some (.int .i64 (V[k]?.getD 0)) := by
    rw [cell_of_row _ _ _ _ _ _ hx4, ivs_get _ _ (by rw [H.out.1]; exact hk)]
  have t1 : decide ((k : Int) < 0) = false := by simp
  have t2 : decide ((k : Int) > 15) = false := by simp; omega
  have hlt := HLT.out
  generalize V[k]?.getD 0 = y at c1 hlt
  have t3 : (y == 1099511627776) = false := by simp; omega
  go_wp2_with (first | (refine wpList_store_row rfl 25 (.tmp 5) (.tmp 20) rfl w3.heap.size 25 vz (ivs B) rfl rfl hn1 hbi hvz2 (ivs_one B) ?_; rw [setRow_new]) | (refine wpList_load_rowg (by rfl) 25 (.tmp 5) rfl w3.heap.size rfl 25 (ivs B) (0, 0) _ hn2 Try.underlying25 rfl hbi ?_) | (refine wpList_load_rowg (by rfl) 22 (.tmp 2) rfl w.heap.size rfl 22 (ivs V) (0, 0) _ hx4 Try.underlying22 rfl (arr_info H.out.1) ?_))
  refine (Compare_R V B HO.out.1 HO.out.2 (-1) HC.out _).mono ?_
  rintro e w5 ⟨rfl, h5⟩
  have hb5 := hb4.trans (h5.mono hb4.size)
  have hx6 := (h5.block _ (Array.getElem?_eq_some_iff.1 hx4).1).trans hx4
  have hy6 := (h5.block _ (Array.getElem?_eq_some_iff.1 hn2).1).trans hn2
  clear hx4 hx5 hn1 hn2 hb4 h5 c1 t3 hlt
  generalize hbs : w3.heap.size = bs at *
  have HX := Lib.hid (And.intro hx6 hy6)
  have HBL := Lib.hid hb5
  clear hx6 hy6 hb5 hbs
  go_wp2
  go_loopw [7, 49] (fun _ i wr => ∃ j n : Nat, j ≤ 16 ∧ i = .int .i64 j ∧ wr = w5.drewN n) (fun _ i _ => 16 - (intOf i).toNat)
  case atStart => exact ⟨0, 0, by omega, rfl, rfl⟩
  case round =>
    obtain ⟨j, n, hj, rfl, rfl⟩ := hrel
    by_cases hlt : j < 16
    · have c1 : w5.cell? ⟨w.heap.size, j, none⟩ = some (.int .i64 (V[j]?.getD 0)) := by
        rw [cell_of_row _ _ _ _ _ _ HX.out.1, ivs_get _ _ (by rw [H.out.1]; exact hlt)]
      have c2 : w5.cell? ⟨bs, j, none⟩ = some (.int .i64 (B[j]?.getD 0)) := by
        rw [cell_of_row _ _ _ _ _ _ HX.out.2, ivs_get _ _ (by rw [HO.out.2.len]; exact hlt)]
      have hB1 := HG.out j
      have hv1 := HO.out.1.lo j
      have hv2 := HO.out.1.hi j
      have hlz : (j : Int) < 16 := by omega
      by_cases hjk : j = k
      · subst hjk
        rw [if_pos rfl] at hB1
        rw [hB1] at c2
        clear hB1
        generalize V[j]?.getD 0 = x at c1 c2 hv1 hv2
        go_wp2
        go_quiet (fail)
        go_wp2
        go_roundw
        case rel => exact ⟨j + 1, n + nq, by omega, by go_num, by simp⟩
        case measure => simp [intOf]; omega
      · rw [if_neg hjk] at hB1
        rw [hB1] at c2
        clear hB1
        generalize V[j]?.getD 0 = x at c1 c2 hv1 hv2
        have t1 : ((j : Int) == (k : Int)) = false := by simp; omega
        have t2 : ((j : Int) != (k : Int)) = true := by simp; omega
        go_wp2
        go_quiet (fail)
        go_wp2
        go_roundw
        case rel => exact ⟨j + 1, n + nq, by omega, by go_num, by simp⟩
        case measure => simp [intOf]; omega
    · obtain rfl : j = 16 := by omega
      go_wp2
      go_ret
      exact ⟨rfl, below_drewN HBL.out _⟩
end

theorem VectorBumps_walk (V : List Int) (r : Int) (w : World) (hV : V.length = 16) (hb : ∀ i : Nat, -9223372036854775808 ≤ V[i]?.getD 0 ∧ V[i]?.getD 0 ≤ 9223372036854775807) (hr : -9223372036854775808 ≤ r ∧ r ≤ 9223372036854775807) :
    Calls Try.prog 3 #[.agg (ivs V), .int .i64 r] w fun e w' => e = .returned (.bool true) ∧ Below w.heap.size w w' := by
  cases hg : good V with
  | false => exact bumps_bad V hV hb r w hg
  | true =>
    by_cases h : r < 0 ∨ 16 ≤ r ∨ ∃ k : Nat, k < 16 ∧ r = (k : Int) ∧ 1099511627776 ≤ V[k]?.getD 0
    · exact bumps_no V hV hb r hr.1 hr.2 w hg h
    · obtain ⟨k, rfl⟩ : ∃ k : Nat, r = (k : Int) := ⟨r.toNat, by omega⟩
      have hk : k < 16 := by omega
      refine bumps_ok V hV hb w k hk ?_ hg
      rcases Int.lt_or_le (V[k]?.getD 0) 1099511627776 with h' | h'
      · exact h'
      · exact absurd (Or.inr (Or.inr ⟨k, hk, rfl, h'⟩)) h

end Go.Proofs.Ytilnkfcggfaheaa
