/-
  The contract of the vectors' fixed example.
-/
import Derived.Test.YtilnkfcggfaheaaVecBump
namespace Go.Proofs.Ytilnkfcggfaheaa
open Go.RowKit Go.Shelf

theorem Compare_R (U V : List Int) (hU : VecOk U) (hV : VecOk V) (R : Int) (hR : cmpv U V = R) (w : World) :
    Calls Try.prog 11 #[.agg (ivs U), .agg (ivs V)] w fun e w' => e = .returned (.int .i64 R) ∧ Below w.heap.size w w' := by
  rw [← hR]; exact Compare_any U V hU hV w

theorem bump_ok {V : List Int} (hV : VecOk V) {r : Nat} (hr : r < 16) (hlt : V[r]?.getD 0 < 1099511627776) : VecOk (bump V r) := by
  refine ⟨by rw [bump_length, hV.len], fun i => ?_, fun i => ?_⟩
  · rw [bump_get _ _ (by rw [hV.len]; exact hr)]; have := hV.lo i; have := hV.lo r; split <;> omega
  · rw [bump_get _ _ (by rw [hV.len]; exact hr)]; have := hV.hi i; split <;> omega

theorem Bump_R (V : List Int) (hV : VecOk V) (r : Nat) (hr : r < 16) (hlt : V[r]?.getD 0 < 1099511627776) (B : List Int) (hB : bump V r = B) (w : World) :
    Calls Try.prog 10 #[.agg (ivs V), .int .i64 (r : Int)] w fun e w' => e = .returned (.tuple #[.agg (ivs B), .int .i64 0]) ∧ Below w.heap.size w w' := by
  rw [← hB]; exact Bump_ok V hV r hr hlt w


set_option maxRecDepth 100000 in
set_option maxHeartbeats 1000000 in
theorem awake_any (w : World) : Calls Try.prog 8 #[] w fun e w' => e = .returned (.bool true) ∧ Below w.heap.size w w' := by
  obtain ⟨a1, h1⟩ : ∃ a, bump zeros 1 = a := ⟨_, rfl⟩
  obtain ⟨a2, h2⟩ : ∃ a, bump zeros 2 = a := ⟨_, rfl⟩
  have ok1 : VecOk a1 := by rw [← h1]; exact bump_ok zeros_ok (by omega) (by rw [zeros_get]; omega)
  have ok2 : VecOk a2 := by rw [← h2]; exact bump_ok zeros_ok (by omega) (by rw [zeros_get]; omega)
  have cmp12 : cmpv a1 a2 = 2 := by rw [← h1, ← h2]; decide
  have cmp1m : cmpv a1 (mg a1 a2) = -1 := by rw [← h1, ← h2]; decide
  have hbz := run_build_zero
  have hz := run_zero_vec
  have H12 := Lib.hid (And.intro h1 h2)
  clear h1 h2
  go_enter Try.func8, Try.ntmps8
  go_wp2_with (fail)
  refine (Bump_R zeros zeros_ok 1 (by omega) (by rw [zeros_get]; omega) a1 H12.out.1 _).mono ?_
  rintro e w1 ⟨rfl, hb1⟩
  have hi1 := vec_info ok1.len
  have hvz1 : vz.size = (ivs a1).size := by rw [ivs_size, ok1.len]; rfl
  have hn1 := heap_alloc_new w1 (Obj.cells vz 25)
  have hn2 := heap_alloc_new w1 (Obj.cells (ivs a1) 25)
  go_wp2_with (first | (refine wpList_store_row rfl 25 (.tmp 1) (.tmp 8) rfl w1.heap.size 25 vz (ivs a1) rfl rfl hn1 hi1 hvz1 (ivs_one a1) ?_; rw [setRow_new]))
  clear hn1
  have hb := hb1.alloc hb1.size (.cells (ivs a1) 25)
  generalize hW : w1.alloc (.cells (ivs a1) 25) = W1 at hb hn2
  clear hW
  refine (Bump_R zeros zeros_ok 2 (by omega) (by rw [zeros_get]; omega) a2 H12.out.2 _).mono ?_
  rintro e w2 ⟨rfl, hb2⟩
  have hx1 := (hb2.block _ (Array.getElem?_eq_some_iff.1 hn2).1).trans hn2
  have hb3 := hb.trans (hb2.mono hb.size)
  clear hn2 hb2 hb hb1
  have hi2 := vec_info ok2.len
  have hvz2 : vz.size = (ivs a2).size := by rw [ivs_size, ok2.len]; rfl
  have hn1 := heap_alloc_new w2 (Obj.cells vz 25)
  have hn2 := heap_alloc_new w2 (Obj.cells (ivs a2) 25)
  go_wp2_with (first | (refine wpList_store_row rfl 25 (.tmp 3) (.tmp 13) rfl w2.heap.size 25 vz (ivs a2) rfl rfl hn1 hi2 hvz2 (ivs_one a2) ?_; rw [setRow_new]))
  clear hn1
  have hb := hb3.alloc hb3.size (.cells (ivs a2) 25)
  have hx1 := (((Below.refl _ w2).alloc (Nat.le_refl _) (.cells (ivs a2) 25)).block _ (Array.getElem?_eq_some_iff.1 hx1).1).trans hx1
  have hx2 := hn2
  clear hn2 hb3
  generalize hb1e : w1.heap.size = b1 at *
  generalize hb2e : w2.heap.size = b2 at *
  generalize hW : w2.alloc (.cells (ivs a2) 25) = W at *

  refine wp_region_rel rfl (fun W' => Below W.heap.size W W') (fun W1 W2 => Below W1.heap.size W1 W2)
    (fun i => ([fun v _ => v = (.int .i64 0 : Value), fun v _ => v = (.bool true : Value), fun v _ => v = (.bool true : Value), fun v _ => v = (.int .i64 0 : Value), fun v _ => v = (.bool true : Value), fun v _ => v = (.bool true : Value), fun v _ => v = (.bool true : Value), fun v _ => v = (.agg (ivs a1) : Value), fun v _ => v = (.agg (ivs a2) : Value), fun v _ => v = (.int .i64 2 : Value), fun v _ => v = (.bool true : Value), fun v _ => v = (.bool true : Value), fun v _ => v = (.bool true : Value), fun v _ => v = (.agg (ivs a1) : Value), fun v _ => v = (.agg (ivs a1) : Value), fun v _ => v = (.agg (ivs a2) : Value), SlV [a1, a2], fun v _ => v = (.agg (ivs (mg a1 a2)) : Value), fun v _ => v = (.int .i64 (-1) : Value), fun v _ => v = (.bool true : Value), fun v _ => v = (.bool true : Value), fun v _ => v = (.bool true : Value)][i]?).getD (fun _ _ => True))
    (fun x => { tmps := #[x 21, .pointer (some ⟨b1, 0, none⟩), .int .i64 0, .pointer (some ⟨b2, 0, none⟩), .int .i64 0, .tuple #[.agg (ivs a1), .int .i64 0], .agg vz, .tuple #[.agg (ivs a1), .int .i64 0], .agg (ivs a1), .int .i64 0, .tuple #[.agg (ivs a2), .int .i64 0], .agg vz, .tuple #[.agg (ivs a2), .int .i64 0], .agg (ivs a2), .int .i64 0, x 0, x 1, x 2, x 3, x 4, x 5, x 6, x 7, x 8, x 9, x 10, x 11, x 12, x 13, x 14, x 15, x 16, x 17, x 18, x 19, x 20], defers := [] }) (fun x => by simp only [fillL, Act.put, List.setIfInBounds_toArray, List.set_cons_zero, List.set_cons_succ, Nat.reduceAdd]) (by kernel_rfl) (by kernel_rfl) ?xst ((Below.refl _ _).drew) ?xop ?xfin
  case xst =>
    intro i v w1 w2 h hb
    rcases i with _ | _ | _ | _ | _ | _ | _ | _ | _ | _ | _ | _ | _ | _ | _ | _ | _ | _ | _ | _ | _ | _ | i
    · exact h
    · exact h
    · exact h
    · exact h
    · exact h
    · exact h
    · exact h
    · exact h
    · exact h
    · exact h
    · exact h
    · exact h
    · exact h
    · exact h
    · exact h
    · exact h
    · exact SlV.keep h hb
    · exact h
    · exact h
    · exact h
    · exact h
    · exact h
    · exact h
  case xop =>
    refine .cons (.plain rfl fun x w1 hC hd K hK => ?_) ?_
    · exact wp_value (v := (.int .i64 0 : Value)) (by rfl) (hK _ _ (Below.refl _ _) hC rfl)
    refine .cons (.plain rfl fun x w1 hC hd K hK => ?_) ?_
    · have d0 : x 0 = (.int .i64 0 : Value) := hd.get 0 rfl
      dsimp only at hK ⊢
      rw [d0] at hK ⊢
      exact wp_value (v := (.bool true : Value)) (by rfl) (hK _ _ (Below.refl _ _) hC rfl)
    refine .cons (.plain rfl fun x w1 hC hd K hK => ?_) ?_
    · have d1 : x 1 = (.bool true : Value) := hd.get 1 rfl
      dsimp only at hK ⊢
      rw [d1] at hK ⊢
      exact wp_value (v := (.bool true : Value)) (by rfl) (hK _ _ (Below.refl _ _) hC rfl)
    refine .cons (.yes 2 true 17 rfl rfl (fun x w1 hC hd => by have d : x 2 = .bool true := hd.get 2 rfl; show some (x 2) = _; rw [d]) fun x w1 hC hd K hK => ?_) ?_
    · exact wp_value (v := (.int .i64 0 : Value)) (by rfl) (hK _ _ (Below.refl _ _) hC rfl)
    refine .cons (.yes 2 true 17 rfl rfl (fun x w1 hC hd => by have d : x 2 = .bool true := hd.get 2 rfl; show some (x 2) = _; rw [d]) fun x w1 hC hd K hK => ?_) ?_
    · have d3 : x 3 = (.int .i64 0 : Value) := hd.get 3 rfl
      dsimp only at hK ⊢
      rw [d3] at hK ⊢
      exact wp_value (v := (.bool true : Value)) (by rfl) (hK _ _ (Below.refl _ _) hC rfl)
    refine .cons (.plain rfl fun x w1 hC hd K hK => ?_) ?_
    · have d2 : x 2 = (.bool true : Value) := hd.get 2 rfl
      have d4 : x 4 = (.bool true : Value) := hd.get 4 rfl
      dsimp only at hK ⊢
      rw [d2, d4] at hK ⊢
      exact wp_value (v := (.bool true : Value)) (by rfl) (hK _ _ (Below.refl _ _) hC rfl)
    refine .cons (.plain rfl fun x w1 hC hd K hK => ?_) ?_
    · have d5 : x 5 = (.bool true : Value) := hd.get 5 rfl
      dsimp only at hK ⊢
      rw [d5] at hK ⊢
      exact wp_value (v := (.bool true : Value)) (by rfl) (hK _ _ (Below.refl _ _) hC rfl)
    refine .cons (.yes 6 true 21 rfl rfl (fun x w1 hC hd => by have d : x 6 = .bool true := hd.get 6 rfl; show some (x 6) = _; rw [d]) fun x w1 hC hd K hK => ?_) ?_
    · exact wp_load_row 25 (.tmp 1) rfl b1 rfl 25 (ivs a1) (0, 0) _ ((hC.block _ (Array.getElem?_eq_some_iff.1 hx1).1).trans hx1) Try.underlying25 rfl (vec_info ok1.len) (hK _ _ (Below.refl _ _) hC rfl)
    refine .cons (.yes 6 true 21 rfl rfl (fun x w1 hC hd => by have d : x 6 = .bool true := hd.get 6 rfl; show some (x 6) = _; rw [d]) fun x w1 hC hd K hK => ?_) ?_
    · exact wp_load_row 25 (.tmp 3) rfl b2 rfl 25 (ivs a2) (0, 0) _ ((hC.block _ (Array.getElem?_eq_some_iff.1 hx2).1).trans hx2) Try.underlying25 rfl (vec_info ok2.len) (hK _ _ (Below.refl _ _) hC rfl)
    refine .cons (.yes 6 true 21 rfl rfl (fun x w1 hC hd => by have d : x 6 = .bool true := hd.get 6 rfl; show some (x 6) = _; rw [d]) fun x w1 hC hd K hK => ?_) ?_
    · have d7 : x 7 = (.agg (ivs a1) : Value) := hd.get 7 rfl
      have d8 : x 8 = (.agg (ivs a2) : Value) := hd.get 8 rfl
      dsimp only at hK ⊢
      rw [d7, d8] at hK ⊢
      exact wp_called (f := 11) (args := #[.agg (ivs a1), .agg (ivs a2)]) (exec_call 11 _ rfl _ rfl rfl #[.agg (ivs a1), .agg (ivs a2)] rfl _ Try.func11 (by kernel_rfl) (by kernel_rfl) w1) (Compare_R a1 a2 ok1 ok2 2 cmp12 w1) (fun e w' ⟨he, hb⟩ => ⟨_, he, hK _ _ hb (hC.trans (hb.mono hC.size)) rfl⟩)
    refine .cons (.yes 6 true 21 rfl rfl (fun x w1 hC hd => by have d : x 6 = .bool true := hd.get 6 rfl; show some (x 6) = _; rw [d]) fun x w1 hC hd K hK => ?_) ?_
    · have d9 : x 9 = (.int .i64 2 : Value) := hd.get 9 rfl
      dsimp only at hK ⊢
      rw [d9] at hK ⊢
      exact wp_value (v := (.bool true : Value)) (by rfl) (hK _ _ (Below.refl _ _) hC rfl)
    refine .cons (.plain rfl fun x w1 hC hd K hK => ?_) ?_
    · have d6 : x 6 = (.bool true : Value) := hd.get 6 rfl
      have d10 : x 10 = (.bool true : Value) := hd.get 10 rfl
      dsimp only at hK ⊢
      rw [d6, d10] at hK ⊢
      exact wp_value (v := (.bool true : Value)) (by rfl) (hK _ _ (Below.refl _ _) hC rfl)
    refine .cons (.plain rfl fun x w1 hC hd K hK => ?_) ?_
    · have d11 : x 11 = (.bool true : Value) := hd.get 11 rfl
      dsimp only at hK ⊢
      rw [d11] at hK ⊢
      exact wp_value (v := (.bool true : Value)) (by rfl) (hK _ _ (Below.refl _ _) hC rfl)
    refine .cons (.yes 12 true 27 rfl rfl (fun x w1 hC hd => by have d : x 12 = .bool true := hd.get 12 rfl; show some (x 12) = _; rw [d]) fun x w1 hC hd K hK => ?_) ?_
    · exact wp_load_row 25 (.tmp 1) rfl b1 rfl 25 (ivs a1) (0, 0) _ ((hC.block _ (Array.getElem?_eq_some_iff.1 hx1).1).trans hx1) Try.underlying25 rfl (vec_info ok1.len) (hK _ _ (Below.refl _ _) hC rfl)
    refine .cons (.yes 12 true 27 rfl rfl (fun x w1 hC hd => by have d : x 12 = .bool true := hd.get 12 rfl; show some (x 12) = _; rw [d]) fun x w1 hC hd K hK => ?_) ?_
    · exact wp_load_row 25 (.tmp 1) rfl b1 rfl 25 (ivs a1) (0, 0) _ ((hC.block _ (Array.getElem?_eq_some_iff.1 hx1).1).trans hx1) Try.underlying25 rfl (vec_info ok1.len) (hK _ _ (Below.refl _ _) hC rfl)
    refine .cons (.yes 12 true 27 rfl rfl (fun x w1 hC hd => by have d : x 12 = .bool true := hd.get 12 rfl; show some (x 12) = _; rw [d]) fun x w1 hC hd K hK => ?_) ?_
    · exact wp_load_row 25 (.tmp 3) rfl b2 rfl 25 (ivs a2) (0, 0) _ ((hC.block _ (Array.getElem?_eq_some_iff.1 hx2).1).trans hx2) Try.underlying25 rfl (vec_info ok2.len) (hK _ _ (Below.refl _ _) hC rfl)
    refine .cons (.yes 12 true 27 rfl rfl (fun x w1 hC hd => by have d : x 12 = .bool true := hd.get 12 rfl; show some (x 12) = _; rw [d]) fun x w1 hC hd K hK => ?_) ?_
    · have d14 : x 14 = (.agg (ivs a1) : Value) := hd.get 14 rfl
      have d15 : x 15 = (.agg (ivs a2) : Value) := hd.get 15 rfl
      dsimp only at hK ⊢
      rw [d14, d15] at hK ⊢
      exact wp_value' (v := .slice (some ⟨w1.heap.size, 0, none⟩) 2 2) (w' := w1.alloc (.cells ([a1, a2].flatMap ivl).toArray 25)) (exec_build 37 2 _ rfl _ rfl (run_bs2 (a1) (a2) (ok1.len) (ok2.len) w1)) (hK _ _ ((Below.refl _ _).alloc (Nat.le_refl _) _) (hC.alloc hC.size _) (SlV.new [a1, a2] w1 _ 2 rfl))
    refine .cons (.yes 12 true 27 rfl rfl (fun x w1 hC hd => by have d : x 12 = .bool true := hd.get 12 rfl; show some (x 12) = _; rw [d]) fun x w1 hC hd K hK => ?_) ?_
    · have d16 : SlV [a1, a2] (x 16) w1 := hd.get 16 rfl
      exact wp_called (f := 13) (args := #[x 16]) (exec_call 13 _ rfl _ rfl rfl #[x 16] rfl _ Try.func13 (by kernel_rfl) (by kernel_rfl) w1) (Merge_sl [a1, a2] (x 16) w1 d16 (by simp [ok1, ok2]) (by simp) (mg a1 a2) (mgl_two ok1)) (fun e w' ⟨he, hb⟩ => ⟨_, he, hK _ _ hb (hC.trans (hb.mono hC.size)) rfl⟩)
    refine .cons (.yes 12 true 27 rfl rfl (fun x w1 hC hd => by have d : x 12 = .bool true := hd.get 12 rfl; show some (x 12) = _; rw [d]) fun x w1 hC hd K hK => ?_) ?_
    · have d13 : x 13 = (.agg (ivs a1) : Value) := hd.get 13 rfl
      have d17 : x 17 = (.agg (ivs (mg a1 a2)) : Value) := hd.get 17 rfl
      dsimp only at hK ⊢
      rw [d13, d17] at hK ⊢
      exact wp_called (f := 11) (args := #[.agg (ivs a1), .agg (ivs (mg a1 a2))]) (exec_call 11 _ rfl _ rfl rfl #[.agg (ivs a1), .agg (ivs (mg a1 a2))] rfl _ Try.func11 (by kernel_rfl) (by kernel_rfl) w1) (Compare_R a1 (mg a1 a2) ok1 (mg_ok ok1 ok2) (-1) cmp1m w1) (fun e w' ⟨he, hb⟩ => ⟨_, he, hK _ _ hb (hC.trans (hb.mono hC.size)) rfl⟩)
    refine .cons (.yes 12 true 27 rfl rfl (fun x w1 hC hd => by have d : x 12 = .bool true := hd.get 12 rfl; show some (x 12) = _; rw [d]) fun x w1 hC hd K hK => ?_) ?_
    · have d18 : x 18 = (.int .i64 (-1) : Value) := hd.get 18 rfl
      dsimp only at hK ⊢
      rw [d18] at hK ⊢
      exact wp_value (v := (.bool true : Value)) (by rfl) (hK _ _ (Below.refl _ _) hC rfl)
    refine .cons (.plain rfl fun x w1 hC hd K hK => ?_) ?_
    · have d12 : x 12 = (.bool true : Value) := hd.get 12 rfl
      have d19 : x 19 = (.bool true : Value) := hd.get 19 rfl
      dsimp only at hK ⊢
      rw [d12, d19] at hK ⊢
      exact wp_value (v := (.bool true : Value)) (by rfl) (hK _ _ (Below.refl _ _) hC rfl)
    refine .cons (.plain rfl fun x w1 hC hd K hK => ?_) ?_
    · have d20 : x 20 = (.bool true : Value) := hd.get 20 rfl
      dsimp only at hK ⊢
      rw [d20] at hK ⊢
      exact wp_value (v := (.bool true : Value)) (by rfl) (hK _ _ (Below.refl _ _) hC rfl)
    exact .nil
  case xfin =>
    intro x w3 hC hΦ
    have d : x 21 = .bool true := hΦ 21 (by decide)
    dsimp only
    rw [d]
    clear hΦ
    go_wp2
    go_ret
    exact ⟨rfl, hb.trans (hC.mono hb.size)⟩

end Go.Proofs.Ytilnkfcggfaheaa
