/-
  Contracts of the reference's functions on vectors: Good, Covers, Compare, Merge.
-/
import Derived.Test.YtilnkfcggfaheaaVecEq
namespace Go.Proofs.Ytilnkfcggfaheaa
open Go.RowKit Go.Shelf

section
variable {P : Program} {ops : Array Oper} {rest : List Oper} {o : Oper} {a : Act} {w : World} {Q : Exit → Act → World → Prop}
/-- a whole array out of its block, where a guard says yes -/
theorem wpList_load_rowg (hw : Region.wanted o (yielded ops a.tmps) = true) (ty : TypeId) (x : Operand) (ho : o.op = .load ty x)
    (g : Nat) (hx : a.eval x = .pointer (some ⟨g, 0, none⟩)) (t : TypeId) (cs : Array Value) (fr : Nat × Nat) (d : TypeDesc) (hg : w.heap[g]? = some (.cells cs t fr))
    (hu : P.underlying ty = some d) (hd : (match d with | .struct _ | .array _ _ => true | _ => false) = true) (hi : (P.info? ty).map (·.size) = some cs.size)
    (h : wpList P ops Q rest (a.put o.dst (.agg cs)) w) : wpList P ops Q (o :: rest) a w :=
  wpList_step fun K hK => by rw [if_pos hw]; exact wp_load_row ty x ho g hx t cs fr d hg hu hd hi (hK _ _ h)
end

/-- what the reference calls good -/
def good (V : List Int) : Bool := (List.range 16).all fun i => decide (0 ≤ V[i]?.getD 0) && decide (V[i]?.getD 0 ≤ 1099511627776)
/-- none of V's numbers is greater than U's -/
def cov (U V : List Int) : Bool := (List.range 16).all fun i => decide (V[i]?.getD 0 ≤ U[i]?.getD 0)

theorem good_of {V : List Int} (h : ∀ i, i < 16 → 0 ≤ V[i]?.getD 0 ∧ V[i]?.getD 0 ≤ 1099511627776) : good V = true := by
  unfold good; rw [List.all_eq_true]; intro i hi
  have := h i (List.mem_range.1 hi)
  simp [this.1, this.2]
theorem good_at {V : List Int} (h : good V = true) (i : Nat) (hi : i < 16) : 0 ≤ V[i]?.getD 0 ∧ V[i]?.getD 0 ≤ 1099511627776 := by
  unfold good at h; rw [List.all_eq_true] at h
  simpa using h i (List.mem_range.2 hi)
theorem good_no {V : List Int} {i : Nat} (hi : i < 16) (h : ¬ (0 ≤ V[i]?.getD 0 ∧ V[i]?.getD 0 ≤ 1099511627776)) : good V = false := by
  cases hg : good V
  · rfl
  · exact absurd (good_at hg i hi) h
theorem cov_of {U V : List Int} (h : ∀ i, i < 16 → V[i]?.getD 0 ≤ U[i]?.getD 0) : cov U V = true := by
  unfold cov; rw [List.all_eq_true]; intro i hi
  simpa using h i (List.mem_range.1 hi)
theorem cov_at {U V : List Int} (h : cov U V = true) (i : Nat) (hi : i < 16) : V[i]?.getD 0 ≤ U[i]?.getD 0 := by
  unfold cov at h; rw [List.all_eq_true] at h
  simpa using h i (List.mem_range.2 hi)
theorem cov_no {U V : List Int} {i : Nat} (hi : i < 16) (h : ¬ (V[i]?.getD 0 ≤ U[i]?.getD 0)) : cov U V = false := by
  cases hg : cov U V
  · rfl
  · exact absurd (cov_at hg i hi) h
theorem good_ok {V : List Int} (hl : V.length = 16) (h : good V = true) : VecOk V := by
  refine ⟨hl, fun i => ?_, fun i => ?_⟩
  · rcases Nat.lt_or_ge i 16 with hi | hi
    · exact (good_at h i hi).1
    · rw [List.getElem?_eq_none (by omega)]; simp
  · rcases Nat.lt_or_ge i 16 with hi | hi
    · have := (good_at h i hi).2; omega
    · rw [List.getElem?_eq_none (by omega)]; simp

set_option maxHeartbeats 1000000 in
theorem rGood_any (V : List Int) (hV : V.length = 16) (hb : ∀ i : Nat, -9223372036854775808 ≤ V[i]?.getD 0 ∧ V[i]?.getD 0 ≤ 9223372036854775807) (w : World) :
    Calls Try.prog 9 #[.agg (ivs V)] w fun e w' => e = .returned (.bool (good V)) ∧ Below w.heap.size w w' := by
  have HB := Lib.hid hb
  clear hb
  go_enter Try.func9, Try.ntmps9
  go_wp2
  go_loop [3, 4] (fun _ i => ∃ k : Nat, k ≤ 16 ∧ i = .int .i64 k ∧ ∀ j, j < k → 0 ≤ V[j]?.getD 0 ∧ V[j]?.getD 0 ≤ 1099511627776) (fun _ i => 16 - (intOf i).toNat)
  case atStart => exact ⟨0, by omega, rfl, fun j hj => by omega⟩
  case round =>
    obtain ⟨k, hk, rfl, hall⟩ := hrel
    have HA := Lib.hid hall
    clear hall
    by_cases hlt : k < 16
    · have c1 : (w.alloc (.cells (ivs V) 22)).cell? ⟨w.heap.size, k, none⟩ = some (.int .i64 (V[k]?.getD 0)) := by
        rw [cell_of_row _ _ _ _ _ _ (heap_alloc_new w _), ivs_get _ _ (by omega)]
      obtain ⟨hb1, hb2⟩ := HB.out k
      by_cases hx : 0 ≤ V[k]?.getD 0 ∧ V[k]?.getD 0 ≤ 1099511627776
      · have HN : Hid (∀ j, j < k + 1 → 0 ≤ V[j]?.getD 0 ∧ V[j]?.getD 0 ≤ 1099511627776) := Lib.hid (fun j hj => by
          rcases Nat.lt_or_ge j k with h | h
          · exact HA.out j h
          · obtain rfl : j = k := by omega
            exact hx)
        obtain ⟨hx1, hx2⟩ := hx
        have HV := Lib.hid hV
        clear hV
        generalize V[k]?.getD 0 = x at c1 hx1 hx2 hb1 hb2
        have t1 : decide (x < 0) = false := by simp; omega
        have t2 : decide (1099511627776 < x) = false := by simp; omega
        go_wp2
        go_round
        case rel => exact ⟨k + 1, by omega, by go_num, HN.out⟩
        case measure => simp [intOf]; omega
      · have HG := Lib.hid (good_no hlt hx)
        have HV := Lib.hid hV
        clear hV
        generalize V[k]?.getD 0 = x at c1 hx hb1 hb2
        by_cases h0 : x < 0
        · have t1 : decide (x < 0) = true := by simp [h0]
          clear hx
          go_wp2
          go_ret
          exact ⟨by rw [HG.out]; rfl, (Below.refl _ _).alloc (Nat.le_refl _) _⟩
        · have t1 : decide (x < 0) = false := by simp; omega
          have t2 : decide (1099511627776 < x) = true := by simp; omega
          clear hx
          go_wp2
          go_ret
          exact ⟨by rw [HG.out]; rfl, (Below.refl _ _).alloc (Nat.le_refl _) _⟩
    · obtain rfl : k = 16 := by omega
      go_wp2
      go_ret
      exact ⟨by rw [good_of HA.out]; rfl, (Below.refl _ _).alloc (Nat.le_refl _) _⟩

set_option maxHeartbeats 1000000 in
theorem rCovers_any (U V : List Int) (hU : U.length = 16) (hV : V.length = 16) (w : World) :
    Calls Try.prog 16 #[.agg (ivs U), .agg (ivs V)] w fun e w' => e = .returned (.bool (cov U V)) ∧ Below w.heap.size w w' := by
  have hbl : Below w.heap.size w ((w.alloc (.cells (ivs U) 22)).alloc (.cells (ivs V) 22)) := ((Below.refl _ w).alloc (Nat.le_refl _) _).alloc (by simp) _
  have HBL := Lib.hid hbl
  clear hbl
  go_enter Try.func16, Try.ntmps16
  go_wp2
  go_loopw [5, 6] (fun _ i wr => ∃ k n : Nat, k ≤ 16 ∧ i = .int .i64 k ∧ (∀ j, j < k → V[j]?.getD 0 ≤ U[j]?.getD 0) ∧ wr = ((w.alloc (.cells (ivs U) 22)).alloc (.cells (ivs V) 22)).drewN n) (fun _ i _ => 16 - (intOf i).toNat)
  case atStart => exact ⟨0, 0, by omega, rfl, fun j hj => by omega, rfl⟩
  case round =>
    obtain ⟨k, n, hk, rfl, hall, rfl⟩ := hrel
    have HA := Lib.hid hall
    clear hall
    by_cases hlt : k < 16
    · have c1 : ((w.alloc (.cells (ivs U) 22)).alloc (.cells (ivs V) 22)).cell? ⟨w.heap.size, k, none⟩ = some (.int .i64 (U[k]?.getD 0)) := by
        rw [cell_of_row _ _ _ _ _ _ (heap_alloc2_old w _ _), ivs_get _ _ (by omega)]
      have c2 : ((w.alloc (.cells (ivs U) 22)).alloc (.cells (ivs V) 22)).cell? ⟨w.heap.size + 1, k, none⟩ = some (.int .i64 (V[k]?.getD 0)) := by
        rw [cell_of_row _ _ _ _ _ _ (heap_alloc2_new w _ _), ivs_get _ _ (by omega)]
      have HUV := Lib.hid (And.intro hU hV)
      clear hU hV
      by_cases hx : V[k]?.getD 0 ≤ U[k]?.getD 0
      · have HN : Hid (∀ j, j < k + 1 → V[j]?.getD 0 ≤ U[j]?.getD 0) := Lib.hid (fun j hj => by
          rcases Nat.lt_or_ge j k with h | h
          · exact HA.out j h
          · obtain rfl : j = k := by omega
            exact hx)
        generalize V[k]?.getD 0 = x at c2 hx
        generalize U[k]?.getD 0 = y at c1 hx
        have t1 : decide (y < x) = false := by simp; omega
        have hlz : (k : Int) < 16 := by omega
        go_wp2
        go_quiet (fail)
        go_wp2
        go_roundw
        case rel => exact ⟨k + 1, n + nq, by omega, by go_num, HN.out, by simp⟩
        case measure => simp [intOf]; omega
      · have HG := Lib.hid (cov_no hlt hx)
        generalize V[k]?.getD 0 = x at c2 hx
        generalize U[k]?.getD 0 = y at c1 hx
        have t1 : decide (y < x) = true := by simp; omega
        have hlz : (k : Int) < 16 := by omega
        go_wp2
        go_quiet (fail)
        go_wp2
        go_ret
        exact ⟨by rw [HG.out]; rfl, below_drewN (below_drewN HBL.out _) _⟩
    · obtain rfl : k = 16 := by omega
      go_wp2
      go_ret
      exact ⟨by rw [cov_of HA.out]; rfl, below_drewN HBL.out _⟩

/-- how two are to one another -/
def cmpv (U V : List Int) : Int := if cov U V && cov V U then 0 else if cov V U then -1 else if cov U V then 1 else 2

theorem rCovers_R (U V : List Int) (hU : U.length = 16) (hV : V.length = 16) (R : Bool) (hR : cov U V = R) (w : World) :
    Calls Try.prog 16 #[.agg (ivs U), .agg (ivs V)] w fun e w' => e = .returned (.bool R) ∧ Below w.heap.size w w' := by
  rw [← hR]; exact rCovers_any U V hU hV w


set_option maxRecDepth 100000 in
set_option maxHeartbeats 1000000 in
theorem rCompare_tt (U V : List Int) (hU : U.length = 16) (hV : V.length = 16) (h1 : cov U V = true) (h2 : cov V U = true) (w : World) :
    Calls Try.prog 14 #[.agg (ivs U), .agg (ivs V)] w fun e w' => e = .returned (.int .i64 (0)) ∧ Below w.heap.size w w' := by
  have hx2 : ((w.alloc (.cells (ivs U) 22)).alloc (.cells (ivs V) 22)).heap[w.heap.size]? = some (.cells (ivs U) 22 (0, 0)) := heap_alloc2_old w _ _
  have hx3 : ((w.alloc (.cells (ivs U) 22)).alloc (.cells (ivs V) 22)).heap[w.heap.size + 1]? = some (.cells (ivs V) 22 (0, 0)) := heap_alloc2_new w _ _
  have hb : Below w.heap.size w ((w.alloc (.cells (ivs U) 22)).alloc (.cells (ivs V) 22)) := ((Below.refl _ w).alloc (Nat.le_refl _) _).alloc (by simp) _
  have H12 := Lib.hid (And.intro h1 h2)
  have HUV := Lib.hid (And.intro hU hV)
  clear h1 h2 hU hV
  go_enter Try.func14, Try.ntmps14
  go_wp2_with (first | (refine wpList_load_row rfl 22 (.tmp 2) rfl w.heap.size rfl 22 (ivs U) (0, 0) _ hx2 Try.underlying22 rfl (arr_info HUV.out.1) ?_) | (refine wpList_load_row rfl 22 (.tmp 3) rfl (w.heap.size + 1) rfl 22 (ivs V) (0, 0) _ hx3 Try.underlying22 rfl (arr_info HUV.out.2) ?_) | (refine wpList_load_rowg (by rfl) 22 (.tmp 2) rfl w.heap.size rfl 22 (ivs U) (0, 0) _ hx2 Try.underlying22 rfl (arr_info HUV.out.1) ?_) | (refine wpList_load_rowg (by rfl) 22 (.tmp 3) rfl (w.heap.size + 1) rfl 22 (ivs V) (0, 0) _ hx3 Try.underlying22 rfl (arr_info HUV.out.2) ?_))
  refine (rCovers_R U V HUV.out.1 HUV.out.2 true H12.out.1 _).mono ?_
  rintro e w1 ⟨rfl, h11⟩
  have hx2 := (h11.block _ (Array.getElem?_eq_some_iff.1 hx2).1).trans hx2
  have hx3 := (h11.block _ (Array.getElem?_eq_some_iff.1 hx3).1).trans hx3
  have hb := hb.trans (h11.mono hb.size)
  go_wp2_with (first | (refine wpList_load_row rfl 22 (.tmp 2) rfl w.heap.size rfl 22 (ivs U) (0, 0) _ hx2 Try.underlying22 rfl (arr_info HUV.out.1) ?_) | (refine wpList_load_row rfl 22 (.tmp 3) rfl (w.heap.size + 1) rfl 22 (ivs V) (0, 0) _ hx3 Try.underlying22 rfl (arr_info HUV.out.2) ?_) | (refine wpList_load_rowg (by rfl) 22 (.tmp 2) rfl w.heap.size rfl 22 (ivs U) (0, 0) _ hx2 Try.underlying22 rfl (arr_info HUV.out.1) ?_) | (refine wpList_load_rowg (by rfl) 22 (.tmp 3) rfl (w.heap.size + 1) rfl 22 (ivs V) (0, 0) _ hx3 Try.underlying22 rfl (arr_info HUV.out.2) ?_))
  refine (rCovers_R V U HUV.out.2 HUV.out.1 true H12.out.2 _).mono ?_
  rintro e w2 ⟨rfl, h12⟩
  have hx2 := (h12.block _ (Array.getElem?_eq_some_iff.1 hx2).1).trans hx2
  have hx3 := (h12.block _ (Array.getElem?_eq_some_iff.1 hx3).1).trans hx3
  have hb := hb.trans (h12.mono hb.size)
  go_wp2
  go_ret
  exact ⟨rfl, hb⟩

set_option maxRecDepth 100000 in
set_option maxHeartbeats 1000000 in
theorem rCompare_tf (U V : List Int) (hU : U.length = 16) (hV : V.length = 16) (h1 : cov U V = true) (h2 : cov V U = false) (w : World) :
    Calls Try.prog 14 #[.agg (ivs U), .agg (ivs V)] w fun e w' => e = .returned (.int .i64 (1)) ∧ Below w.heap.size w w' := by
  have hx2 : ((w.alloc (.cells (ivs U) 22)).alloc (.cells (ivs V) 22)).heap[w.heap.size]? = some (.cells (ivs U) 22 (0, 0)) := heap_alloc2_old w _ _
  have hx3 : ((w.alloc (.cells (ivs U) 22)).alloc (.cells (ivs V) 22)).heap[w.heap.size + 1]? = some (.cells (ivs V) 22 (0, 0)) := heap_alloc2_new w _ _
  have hb : Below w.heap.size w ((w.alloc (.cells (ivs U) 22)).alloc (.cells (ivs V) 22)) := ((Below.refl _ w).alloc (Nat.le_refl _) _).alloc (by simp) _
  have H12 := Lib.hid (And.intro h1 h2)
  have HUV := Lib.hid (And.intro hU hV)
  clear h1 h2 hU hV
  go_enter Try.func14, Try.ntmps14
  go_wp2_with (first | (refine wpList_load_row rfl 22 (.tmp 2) rfl w.heap.size rfl 22 (ivs U) (0, 0) _ hx2 Try.underlying22 rfl (arr_info HUV.out.1) ?_) | (refine wpList_load_row rfl 22 (.tmp 3) rfl (w.heap.size + 1) rfl 22 (ivs V) (0, 0) _ hx3 Try.underlying22 rfl (arr_info HUV.out.2) ?_) | (refine wpList_load_rowg (by rfl) 22 (.tmp 2) rfl w.heap.size rfl 22 (ivs U) (0, 0) _ hx2 Try.underlying22 rfl (arr_info HUV.out.1) ?_) | (refine wpList_load_rowg (by rfl) 22 (.tmp 3) rfl (w.heap.size + 1) rfl 22 (ivs V) (0, 0) _ hx3 Try.underlying22 rfl (arr_info HUV.out.2) ?_))
  refine (rCovers_R U V HUV.out.1 HUV.out.2 true H12.out.1 _).mono ?_
  rintro e w1 ⟨rfl, h11⟩
  have hx2 := (h11.block _ (Array.getElem?_eq_some_iff.1 hx2).1).trans hx2
  have hx3 := (h11.block _ (Array.getElem?_eq_some_iff.1 hx3).1).trans hx3
  have hb := hb.trans (h11.mono hb.size)
  go_wp2_with (first | (refine wpList_load_row rfl 22 (.tmp 2) rfl w.heap.size rfl 22 (ivs U) (0, 0) _ hx2 Try.underlying22 rfl (arr_info HUV.out.1) ?_) | (refine wpList_load_row rfl 22 (.tmp 3) rfl (w.heap.size + 1) rfl 22 (ivs V) (0, 0) _ hx3 Try.underlying22 rfl (arr_info HUV.out.2) ?_) | (refine wpList_load_rowg (by rfl) 22 (.tmp 2) rfl w.heap.size rfl 22 (ivs U) (0, 0) _ hx2 Try.underlying22 rfl (arr_info HUV.out.1) ?_) | (refine wpList_load_rowg (by rfl) 22 (.tmp 3) rfl (w.heap.size + 1) rfl 22 (ivs V) (0, 0) _ hx3 Try.underlying22 rfl (arr_info HUV.out.2) ?_))
  refine (rCovers_R V U HUV.out.2 HUV.out.1 false H12.out.2 _).mono ?_
  rintro e w2 ⟨rfl, h12⟩
  have hx2 := (h12.block _ (Array.getElem?_eq_some_iff.1 hx2).1).trans hx2
  have hx3 := (h12.block _ (Array.getElem?_eq_some_iff.1 hx3).1).trans hx3
  have hb := hb.trans (h12.mono hb.size)
  go_wp2_with (first | (refine wpList_load_row rfl 22 (.tmp 2) rfl w.heap.size rfl 22 (ivs U) (0, 0) _ hx2 Try.underlying22 rfl (arr_info HUV.out.1) ?_) | (refine wpList_load_row rfl 22 (.tmp 3) rfl (w.heap.size + 1) rfl 22 (ivs V) (0, 0) _ hx3 Try.underlying22 rfl (arr_info HUV.out.2) ?_) | (refine wpList_load_rowg (by rfl) 22 (.tmp 2) rfl w.heap.size rfl 22 (ivs U) (0, 0) _ hx2 Try.underlying22 rfl (arr_info HUV.out.1) ?_) | (refine wpList_load_rowg (by rfl) 22 (.tmp 3) rfl (w.heap.size + 1) rfl 22 (ivs V) (0, 0) _ hx3 Try.underlying22 rfl (arr_info HUV.out.2) ?_))
  refine (rCovers_R V U HUV.out.2 HUV.out.1 false H12.out.2 _).mono ?_
  rintro e w3 ⟨rfl, h13⟩
  have hx2 := (h13.block _ (Array.getElem?_eq_some_iff.1 hx2).1).trans hx2
  have hx3 := (h13.block _ (Array.getElem?_eq_some_iff.1 hx3).1).trans hx3
  have hb := hb.trans (h13.mono hb.size)
  go_wp2_with (first | (refine wpList_load_row rfl 22 (.tmp 2) rfl w.heap.size rfl 22 (ivs U) (0, 0) _ hx2 Try.underlying22 rfl (arr_info HUV.out.1) ?_) | (refine wpList_load_row rfl 22 (.tmp 3) rfl (w.heap.size + 1) rfl 22 (ivs V) (0, 0) _ hx3 Try.underlying22 rfl (arr_info HUV.out.2) ?_) | (refine wpList_load_rowg (by rfl) 22 (.tmp 2) rfl w.heap.size rfl 22 (ivs U) (0, 0) _ hx2 Try.underlying22 rfl (arr_info HUV.out.1) ?_) | (refine wpList_load_rowg (by rfl) 22 (.tmp 3) rfl (w.heap.size + 1) rfl 22 (ivs V) (0, 0) _ hx3 Try.underlying22 rfl (arr_info HUV.out.2) ?_))
  refine (rCovers_R U V HUV.out.1 HUV.out.2 true H12.out.1 _).mono ?_
  rintro e w4 ⟨rfl, h14⟩
  have hx2 := (h14.block _ (Array.getElem?_eq_some_iff.1 hx2).1).trans hx2
  have hx3 := (h14.block _ (Array.getElem?_eq_some_iff.1 hx3).1).trans hx3
  have hb := hb.trans (h14.mono hb.size)
  go_wp2
  go_ret
  exact ⟨rfl, hb⟩

set_option maxRecDepth 100000 in
set_option maxHeartbeats 1000000 in
theorem rCompare_ft (U V : List Int) (hU : U.length = 16) (hV : V.length = 16) (h1 : cov U V = false) (h2 : cov V U = true) (w : World) :
    Calls Try.prog 14 #[.agg (ivs U), .agg (ivs V)] w fun e w' => e = .returned (.int .i64 (-1)) ∧ Below w.heap.size w w' := by
  have hx2 : ((w.alloc (.cells (ivs U) 22)).alloc (.cells (ivs V) 22)).heap[w.heap.size]? = some (.cells (ivs U) 22 (0, 0)) := heap_alloc2_old w _ _
  have hx3 : ((w.alloc (.cells (ivs U) 22)).alloc (.cells (ivs V) 22)).heap[w.heap.size + 1]? = some (.cells (ivs V) 22 (0, 0)) := heap_alloc2_new w _ _
  have hb : Below w.heap.size w ((w.alloc (.cells (ivs U) 22)).alloc (.cells (ivs V) 22)) := ((Below.refl _ w).alloc (Nat.le_refl _) _).alloc (by simp) _
  have H12 := Lib.hid (And.intro h1 h2)
  have HUV := Lib.hid (And.intro hU hV)
  clear h1 h2 hU hV
  go_enter Try.func14, Try.ntmps14
  go_wp2_with (first | (refine wpList_load_row rfl 22 (.tmp 2) rfl w.heap.size rfl 22 (ivs U) (0, 0) _ hx2 Try.underlying22 rfl (arr_info HUV.out.1) ?_) | (refine wpList_load_row rfl 22 (.tmp 3) rfl (w.heap.size + 1) rfl 22 (ivs V) (0, 0) _ hx3 Try.underlying22 rfl (arr_info HUV.out.2) ?_) | (refine wpList_load_rowg (by rfl) 22 (.tmp 2) rfl w.heap.size rfl 22 (ivs U) (0, 0) _ hx2 Try.underlying22 rfl (arr_info HUV.out.1) ?_) | (refine wpList_load_rowg (by rfl) 22 (.tmp 3) rfl (w.heap.size + 1) rfl 22 (ivs V) (0, 0) _ hx3 Try.underlying22 rfl (arr_info HUV.out.2) ?_))
  refine (rCovers_R U V HUV.out.1 HUV.out.2 false H12.out.1 _).mono ?_
  rintro e w1 ⟨rfl, h11⟩
  have hx2 := (h11.block _ (Array.getElem?_eq_some_iff.1 hx2).1).trans hx2
  have hx3 := (h11.block _ (Array.getElem?_eq_some_iff.1 hx3).1).trans hx3
  have hb := hb.trans (h11.mono hb.size)
  go_wp2_with (first | (refine wpList_load_row rfl 22 (.tmp 2) rfl w.heap.size rfl 22 (ivs U) (0, 0) _ hx2 Try.underlying22 rfl (arr_info HUV.out.1) ?_) | (refine wpList_load_row rfl 22 (.tmp 3) rfl (w.heap.size + 1) rfl 22 (ivs V) (0, 0) _ hx3 Try.underlying22 rfl (arr_info HUV.out.2) ?_) | (refine wpList_load_rowg (by rfl) 22 (.tmp 2) rfl w.heap.size rfl 22 (ivs U) (0, 0) _ hx2 Try.underlying22 rfl (arr_info HUV.out.1) ?_) | (refine wpList_load_rowg (by rfl) 22 (.tmp 3) rfl (w.heap.size + 1) rfl 22 (ivs V) (0, 0) _ hx3 Try.underlying22 rfl (arr_info HUV.out.2) ?_))
  refine (rCovers_R V U HUV.out.2 HUV.out.1 true H12.out.2 _).mono ?_
  rintro e w2 ⟨rfl, h12⟩
  have hx2 := (h12.block _ (Array.getElem?_eq_some_iff.1 hx2).1).trans hx2
  have hx3 := (h12.block _ (Array.getElem?_eq_some_iff.1 hx3).1).trans hx3
  have hb := hb.trans (h12.mono hb.size)
  go_wp2
  go_ret
  exact ⟨rfl, hb⟩

set_option maxRecDepth 100000 in
set_option maxHeartbeats 1000000 in
theorem rCompare_ff (U V : List Int) (hU : U.length = 16) (hV : V.length = 16) (h1 : cov U V = false) (h2 : cov V U = false) (w : World) :
    Calls Try.prog 14 #[.agg (ivs U), .agg (ivs V)] w fun e w' => e = .returned (.int .i64 (2)) ∧ Below w.heap.size w w' := by
  have hx2 : ((w.alloc (.cells (ivs U) 22)).alloc (.cells (ivs V) 22)).heap[w.heap.size]? = some (.cells (ivs U) 22 (0, 0)) := heap_alloc2_old w _ _
  have hx3 : ((w.alloc (.cells (ivs U) 22)).alloc (.cells (ivs V) 22)).heap[w.heap.size + 1]? = some (.cells (ivs V) 22 (0, 0)) := heap_alloc2_new w _ _
  have hb : Below w.heap.size w ((w.alloc (.cells (ivs U) 22)).alloc (.cells (ivs V) 22)) := ((Below.refl _ w).alloc (Nat.le_refl _) _).alloc (by simp) _
  have H12 := Lib.hid (And.intro h1 h2)
  have HUV := Lib.hid (And.intro hU hV)
  clear h1 h2 hU hV
  go_enter Try.func14, Try.ntmps14
  go_wp2_with (first | (refine wpList_load_row rfl 22 (.tmp 2) rfl w.heap.size rfl 22 (ivs U) (0, 0) _ hx2 Try.underlying22 rfl (arr_info HUV.out.1) ?_) | (refine wpList_load_row rfl 22 (.tmp 3) rfl (w.heap.size + 1) rfl 22 (ivs V) (0, 0) _ hx3 Try.underlying22 rfl (arr_info HUV.out.2) ?_) | (refine wpList_load_rowg (by rfl) 22 (.tmp 2) rfl w.heap.size rfl 22 (ivs U) (0, 0) _ hx2 Try.underlying22 rfl (arr_info HUV.out.1) ?_) | (refine wpList_load_rowg (by rfl) 22 (.tmp 3) rfl (w.heap.size + 1) rfl 22 (ivs V) (0, 0) _ hx3 Try.underlying22 rfl (arr_info HUV.out.2) ?_))
  refine (rCovers_R U V HUV.out.1 HUV.out.2 false H12.out.1 _).mono ?_
  rintro e w1 ⟨rfl, h11⟩
  have hx2 := (h11.block _ (Array.getElem?_eq_some_iff.1 hx2).1).trans hx2
  have hx3 := (h11.block _ (Array.getElem?_eq_some_iff.1 hx3).1).trans hx3
  have hb := hb.trans (h11.mono hb.size)
  go_wp2_with (first | (refine wpList_load_row rfl 22 (.tmp 2) rfl w.heap.size rfl 22 (ivs U) (0, 0) _ hx2 Try.underlying22 rfl (arr_info HUV.out.1) ?_) | (refine wpList_load_row rfl 22 (.tmp 3) rfl (w.heap.size + 1) rfl 22 (ivs V) (0, 0) _ hx3 Try.underlying22 rfl (arr_info HUV.out.2) ?_) | (refine wpList_load_rowg (by rfl) 22 (.tmp 2) rfl w.heap.size rfl 22 (ivs U) (0, 0) _ hx2 Try.underlying22 rfl (arr_info HUV.out.1) ?_) | (refine wpList_load_rowg (by rfl) 22 (.tmp 3) rfl (w.heap.size + 1) rfl 22 (ivs V) (0, 0) _ hx3 Try.underlying22 rfl (arr_info HUV.out.2) ?_))
  refine (rCovers_R V U HUV.out.2 HUV.out.1 false H12.out.2 _).mono ?_
  rintro e w2 ⟨rfl, h12⟩
  have hx2 := (h12.block _ (Array.getElem?_eq_some_iff.1 hx2).1).trans hx2
  have hx3 := (h12.block _ (Array.getElem?_eq_some_iff.1 hx3).1).trans hx3
  have hb := hb.trans (h12.mono hb.size)
  go_wp2_with (first | (refine wpList_load_row rfl 22 (.tmp 2) rfl w.heap.size rfl 22 (ivs U) (0, 0) _ hx2 Try.underlying22 rfl (arr_info HUV.out.1) ?_) | (refine wpList_load_row rfl 22 (.tmp 3) rfl (w.heap.size + 1) rfl 22 (ivs V) (0, 0) _ hx3 Try.underlying22 rfl (arr_info HUV.out.2) ?_) | (refine wpList_load_rowg (by rfl) 22 (.tmp 2) rfl w.heap.size rfl 22 (ivs U) (0, 0) _ hx2 Try.underlying22 rfl (arr_info HUV.out.1) ?_) | (refine wpList_load_rowg (by rfl) 22 (.tmp 3) rfl (w.heap.size + 1) rfl 22 (ivs V) (0, 0) _ hx3 Try.underlying22 rfl (arr_info HUV.out.2) ?_))
  refine (rCovers_R U V HUV.out.1 HUV.out.2 false H12.out.1 _).mono ?_
  rintro e w3 ⟨rfl, h13⟩
  have hx2 := (h13.block _ (Array.getElem?_eq_some_iff.1 hx2).1).trans hx2
  have hx3 := (h13.block _ (Array.getElem?_eq_some_iff.1 hx3).1).trans hx3
  have hb := hb.trans (h13.mono hb.size)
  go_wp2
  go_ret
  exact ⟨rfl, hb⟩

theorem rCompare_any (U V : List Int) (hU : U.length = 16) (hV : V.length = 16) (w : World) :
    Calls Try.prog 14 #[.agg (ivs U), .agg (ivs V)] w fun e w' => e = .returned (.int .i64 (cmpv U V)) ∧ Below w.heap.size w w' := by
  unfold cmpv
  rcases h1 : cov U V with _ | _ <;> rcases h2 : cov V U with _ | _
  · exact rCompare_ff U V hU hV h1 h2 w
  · exact rCompare_ft U V hU hV h1 h2 w
  · exact rCompare_tf U V hU hV h1 h2 w
  · exact rCompare_tt U V hU hV h1 h2 w


end Go.Proofs.Ytilnkfcggfaheaa
