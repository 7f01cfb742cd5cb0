/-
  The walk of VectorOrders, where all are good.
-/
import Derived.Test.YtilnkfcggfaheaaVecOrders
namespace Go.Proofs.Ytilnkfcggfaheaa
open Go.RowKit Go.Shelf

theorem rMerge_R (U V : List Int) (hU : U.length = 16) (hV : V.length = 16) (M : List Int) (hM : mg U V = M) (w : World) :
    Calls Try.prog 15 #[.agg (ivs U), .agg (ivs V)] w fun e w' => e = .returned (.agg (ivs M)) ∧ Below w.heap.size w w' := by
  rw [← hM]; exact rMerge_any U V hU hV w
theorem exec_zero {ρ : Operand → Value} {o : Oper} (parts : Array (Nat × Operand)) (hp : parts = #[]) (ho : o.op = .build 25 parts) (w : World) : (execOp ρ o).run Try.prog w = .ok (.value (.agg (ivs zeros))) w := by
  subst hp
  have e : (#[] : Array (Nat × Operand)).map (fun (i, x) => (i, ρ x)) = #[] := by simp
  unfold execOp
  rw [ho]
  simp only [e, Sem.run_bind, run_build_zero, Result.andThen_ok, Sem.run_pure]
  rfl
theorem SlV.new2 (U V : List Int) (w : World) (T : TypeId) : SlV [U, V] (.slice (some ⟨w.heap.size, 0, none⟩) 2 2) (w.alloc (.cells (ivl U ++ ivl V).toArray T)) := by
  have h := SlV.new [U, V] w T 2 rfl
  simpa using h
theorem wpList_bs {P : Program} {ops : Array Oper} {rest : List Oper} {o : Oper} {a : Act} {w : World} {Q : Exit → Act → World → Prop} (hgd : o.guard = none) (T : TypeId) (n : Nat) (parts : Array (Nat × Operand)) (ho : o.op = .buildSlice T n parts) (ps : List (Nat × Value))
    (hp : parts.toList.map (fun p => (p.1, a.eval p.2)) = ps) (v : Value) (w' : World) (h : (Instr.buildSlice T n ps.toArray).run P w = .ok v w') (hk : wpList P ops Q rest (a.put o.dst v) w') : wpList P ops Q (o :: rest) a w :=
  wpList_plain hgd fun _ hK => wp_value' (exec_build T n parts ho ps hp h) (hK _ _ hk)

set_option maxRecDepth 100000 in
set_option maxHeartbeats 2000000 in
theorem orders_g (a b c : List Int) (oa : a.length = 16 ∧ ∀ i : Nat, -9223372036854775808 ≤ a[i]?.getD 0 ∧ a[i]?.getD 0 ≤ 9223372036854775807) (ob : b.length = 16 ∧ ∀ i : Nat, -9223372036854775808 ≤ b[i]?.getD 0 ∧ b[i]?.getD 0 ≤ 9223372036854775807) (oc : c.length = 16 ∧ ∀ i : Nat, -9223372036854775808 ≤ c[i]?.getD 0 ∧ c[i]?.getD 0 ≤ 9223372036854775807) (ga : good a = true) (gb : good b = true) (gc : good c = true) (w : World) :
    Calls Try.prog 4 #[.agg (ivs a), .agg (ivs b), .agg (ivs c)] w fun e w' => e = .returned (.bool true) ∧ Below w.heap.size w w' := by
  have oka := good_ok oa.1 ga
  have okb := good_ok ob.1 gb
  have okc := good_ok oc.1 gc
  obtain ⟨M, okm, HM⟩ : ∃ M, VecOk M ∧ Hid (mgl [a, b] = M ∧ mgl [b, a] = M ∧ good M = true ∧ mgl [a, b, c] = mg M c ∧ mgl [M, c] = mg M c ∧ (cov c a = true → cov c b = true → cov c M = true) ∧ mg a b = M) :=
    ⟨mg a b, mg_ok oka okb, Lib.hid ⟨mgl_two oka, by rw [mgl_two okb, mg_comm], good_mg ga gb, mgl_three oka, mgl_two (mg_ok oka okb), cov_mg, rfl⟩⟩
  have la := oa.1
  have lb := ob.1
  have lc := oc.1
  have bda := oa.2
  have bdb := ob.2
  have bdc := oc.2
  obtain ⟨W, hW⟩ : ∃ W, ((w.alloc (.cells (ivs a) 22)).alloc (.cells (ivs b) 22)).alloc (.cells (ivs c) 22) = W := ⟨_, rfl⟩
  have hxa : W.heap[w.heap.size]? = some (.cells (ivs a) 22 (0, 0)) := by
    rw [← hW]; exact (((Below.refl _ ((w.alloc (.cells (ivs a) 22)).alloc (.cells (ivs b) 22))).alloc (Nat.le_refl _) (.cells (ivs c) 22)).block _ (by simp; omega)).trans (heap_alloc2_old w _ _)
  have hxb : W.heap[w.heap.size + 1]? = some (.cells (ivs b) 22 (0, 0)) := by
    rw [← hW]; exact (((Below.refl _ ((w.alloc (.cells (ivs a) 22)).alloc (.cells (ivs b) 22))).alloc (Nat.le_refl _) (.cells (ivs c) 22)).block _ (by simp)).trans (heap_alloc2_new w _ _)
  have hxc : W.heap[w.heap.size + 1 + 1]? = some (.cells (ivs c) 22 (0, 0)) := by
    rw [← hW]; have := heap_alloc_new ((w.alloc (.cells (ivs a) 22)).alloc (.cells (ivs b) 22)) (Obj.cells (ivs c) 22); simpa using this
  have hb : Below w.heap.size w W := by
    rw [← hW]; exact (((Below.refl _ w).alloc (Nat.le_refl _) _).alloc (by simp) _).alloc (by simp; omega) _
  obtain ⟨H⟩ : Nonempty (Hid (a.length = 16 ∧ b.length = 16 ∧ c.length = 16 ∧ (∀ i : Nat, -9223372036854775808 ≤ a[i]?.getD 0 ∧ a[i]?.getD 0 ≤ 9223372036854775807) ∧ (∀ i : Nat, -9223372036854775808 ≤ b[i]?.getD 0 ∧ b[i]?.getD 0 ≤ 9223372036854775807) ∧ (∀ i : Nat, -9223372036854775808 ≤ c[i]?.getD 0 ∧ c[i]?.getD 0 ≤ 9223372036854775807))) := ⟨Lib.hid ⟨la, lb, lc, bda, bdb, bdc⟩⟩
  clear la lb lc bda bdb bdc oa ob oc
  go_enter Try.func4, Try.ntmps4
  go_wp2_with (fail)
  clear hW

  refine (awake_any _).mono ?_
  rintro e w1 ⟨rfl, h1⟩
  have hxa := (h1.block _ (Array.getElem?_eq_some_iff.1 hxa).1).trans hxa
  have hxb := (h1.block _ (Array.getElem?_eq_some_iff.1 hxb).1).trans hxb
  have hxc := (h1.block _ (Array.getElem?_eq_some_iff.1 hxc).1).trans hxc
  have hb := hb.trans (h1.mono hb.size)
  clear h1
  go_wp2_with (first | (refine wpList_load_row rfl 22 (.tmp 3) rfl w.heap.size rfl 22 (ivs a) (0, 0) _ hxa Try.underlying22 rfl (arr_info H.out.1) ?_) | (refine wpList_load_rowg (by rfl) 22 (.tmp 4) rfl (w.heap.size + 1) rfl 22 (ivs b) (0, 0) _ hxb Try.underlying22 rfl (arr_info H.out.2.1) ?_) | (refine wpList_load_rowg (by rfl) 22 (.tmp 5) rfl (w.heap.size + 1 + 1) rfl 22 (ivs c) (0, 0) _ hxc Try.underlying22 rfl (arr_info H.out.2.2.1) ?_))
  refine (rGood_R a H.out.1 H.out.2.2.2.1 true ga _).mono ?_
  rintro e v0 ⟨rfl, hv0⟩
  have hxa := (hv0.block _ (Array.getElem?_eq_some_iff.1 hxa).1).trans hxa
  have hxb := (hv0.block _ (Array.getElem?_eq_some_iff.1 hxb).1).trans hxb
  have hxc := (hv0.block _ (Array.getElem?_eq_some_iff.1 hxc).1).trans hxc
  have hb := hb.trans (hv0.mono hb.size)
  clear hv0
  go_wp2_with (first | (refine wpList_load_row rfl 22 (.tmp 3) rfl w.heap.size rfl 22 (ivs a) (0, 0) _ hxa Try.underlying22 rfl (arr_info H.out.1) ?_) | (refine wpList_load_rowg (by rfl) 22 (.tmp 4) rfl (w.heap.size + 1) rfl 22 (ivs b) (0, 0) _ hxb Try.underlying22 rfl (arr_info H.out.2.1) ?_) | (refine wpList_load_rowg (by rfl) 22 (.tmp 5) rfl (w.heap.size + 1 + 1) rfl 22 (ivs c) (0, 0) _ hxc Try.underlying22 rfl (arr_info H.out.2.2.1) ?_))
  refine (rGood_R b H.out.2.1 H.out.2.2.2.2.1 true gb _).mono ?_
  rintro e v1 ⟨rfl, hv1⟩
  have hxa := (hv1.block _ (Array.getElem?_eq_some_iff.1 hxa).1).trans hxa
  have hxb := (hv1.block _ (Array.getElem?_eq_some_iff.1 hxb).1).trans hxb
  have hxc := (hv1.block _ (Array.getElem?_eq_some_iff.1 hxc).1).trans hxc
  have hb := hb.trans (hv1.mono hb.size)
  clear hv1
  go_wp2_with (first | (refine wpList_load_row rfl 22 (.tmp 3) rfl w.heap.size rfl 22 (ivs a) (0, 0) _ hxa Try.underlying22 rfl (arr_info H.out.1) ?_) | (refine wpList_load_rowg (by rfl) 22 (.tmp 4) rfl (w.heap.size + 1) rfl 22 (ivs b) (0, 0) _ hxb Try.underlying22 rfl (arr_info H.out.2.1) ?_) | (refine wpList_load_rowg (by rfl) 22 (.tmp 5) rfl (w.heap.size + 1 + 1) rfl 22 (ivs c) (0, 0) _ hxc Try.underlying22 rfl (arr_info H.out.2.2.1) ?_))
  refine (rGood_R c H.out.2.2.1 H.out.2.2.2.2.2 true gc _).mono ?_
  rintro e v2 ⟨rfl, hv2⟩
  have hxa := (hv2.block _ (Array.getElem?_eq_some_iff.1 hxa).1).trans hxa
  have hxb := (hv2.block _ (Array.getElem?_eq_some_iff.1 hxb).1).trans hxb
  have hxc := (hv2.block _ (Array.getElem?_eq_some_iff.1 hxc).1).trans hxc
  have hb := hb.trans (hv2.mono hb.size)
  clear hv2

  have hz := run_zero_vec
  go_wp2_with (first | (refine wpList_load_row rfl 22 (.tmp 3) rfl w.heap.size rfl 22 (ivs a) (0, 0) _ hxa Try.underlying22 rfl (arr_info H.out.1) ?_) | (refine wpList_load_row rfl 22 (.tmp 4) rfl (w.heap.size + 1) rfl 22 (ivs b) (0, 0) _ hxb Try.underlying22 rfl (arr_info H.out.2.1) ?_) | (refine wpList_bs rfl 37 2 #[(0, .tmp 35), (1, .tmp 36)] rfl [(0, .agg (ivs a)), (1, .agg (ivs b))] (by rfl) _ _ (run_bs2 a b oka.len okb.len _) ?_))
  refine (Merge_sl [a, b] _ _ (SlV.new2 a b v2 25) (by simp [oka, okb]) (by simp) M HM.out.1).mono ?_
  rintro e v3 ⟨rfl, h3⟩
  have h3 := ((Below.refl _ _).alloc (Nat.le_refl _) _).trans (h3.mono (by simp))
  have hxa := (h3.block _ (Array.getElem?_eq_some_iff.1 hxa).1).trans hxa
  have hxb := (h3.block _ (Array.getElem?_eq_some_iff.1 hxb).1).trans hxb
  have hxc := (h3.block _ (Array.getElem?_eq_some_iff.1 hxc).1).trans hxc
  have hb := hb.trans (h3.mono hb.size)
  clear h3
  have hvzs : vz.size = (ivs M).size := by rw [ivs_size, okm.len]; rfl
  have hn1 := heap_alloc_new v3 (Obj.cells vz 25)
  have hxm := heap_alloc_new v3 (Obj.cells (ivs M) 25)
  have h4 := (Below.refl _ v3).alloc (Nat.le_refl _) (.cells (ivs M) 25)
  have hxa := (h4.block _ (Array.getElem?_eq_some_iff.1 hxa).1).trans hxa
  have hxb := (h4.block _ (Array.getElem?_eq_some_iff.1 hxb).1).trans hxb
  have hxc := (h4.block _ (Array.getElem?_eq_some_iff.1 hxc).1).trans hxc
  have hb := hb.trans (h4.mono hb.size)
  clear h4
  have hmi := vec_info okm.len
  go_wp2_with (first | (refine wpList_store_row rfl 25 (.tmp 7) (.tmp 38) rfl v3.heap.size 25 vz (ivs M) rfl rfl hn1 hmi hvzs (ivs_one _) ?_; rw [setRow_new]))
  clear hn1

  obtain ⟨R, hR⟩ : ∃ R, cmpv a b = R := ⟨_, rfl⟩
  generalize hW : v3.alloc (Obj.cells (ivs M) 25) = W at *
  clear hW hz hvzs hmi
  generalize hB7 : v3.heap.size = b7 at *
  generalize hB2 : v2.heap.size = b2 at *
  clear hB7 hB2
  refine wp_region_rel rfl (fun W' => Below W.heap.size W W') (fun W1 W2 => Below W1.heap.size W1 W2)
    (fun i => ([fun v _ => v = (.agg (ivs a) : Value), fun v _ => v = (.agg (ivs b) : Value), fun v _ => v = (.int .i64 R : Value), fun v _ => v = (.agg (ivs a) : Value), fun v _ => v = (.agg (ivs b) : Value), fun v _ => v = (.int .i64 R : Value), fun v _ => v = (.bool false : Value), fun v _ => v = (.bool false : Value), fun v _ => v = (.agg (ivs M) : Value), fun v _ => v = (.agg (ivs a) : Value), fun v _ => v = (.agg (ivs b) : Value), fun v _ => v = (.agg (ivs M) : Value), fun v _ => v = (.bool false : Value), fun v _ => v = (.bool false : Value), fun v _ => v = (.bool false : Value), fun v _ => v = (.agg (ivs M) : Value), fun v _ => v = (.agg (ivs b) : Value), fun v _ => v = (.agg (ivs a) : Value), SlV [b, a], fun v _ => v = (.agg (ivs (M)) : Value), fun v _ => v = (.bool false : Value), fun v _ => v = (.bool false : Value), fun v _ => v = (.bool false : Value), fun v _ => v = (.agg (ivs M) : Value), fun v _ => v = (.bool true : Value), fun v _ => v = (.bool false : Value), fun v _ => v = (.bool false : Value)][i]?).getD (fun _ _ => True))
    (fun x => { tmps := #[.agg (ivs a), .agg (ivs b), .agg (ivs c), .pointer (some ⟨w.heap.size, 0, none⟩), .pointer (some ⟨w.heap.size + 1, 0, none⟩), .pointer (some ⟨w.heap.size + 1 + 1, 0, none⟩), .bool false, .pointer (some ⟨b7, 0, none⟩), .bool true, .bool false, .agg (ivs a), .bool true, .bool false, .bool false, .agg (ivs b), .bool true, .bool false, .bool false, .bool false, .agg (ivs c), .bool true, .bool false, .bool false, undef, undef, undef, undef, undef, undef, undef, undef, undef, undef, undef, undef, .agg (ivs a), .agg (ivs b), .slice (some ⟨b2, 0, none⟩) 2 2, .agg (ivs M), x 0, x 1, x 2, x 3, x 4, x 5, x 6, x 7, x 8, x 9, x 10, x 11, x 12, x 13, x 14, x 15, x 16, x 17, x 18, x 19, x 20, x 21, x 22, x 23, x 24, x 25, x 26, undef, undef, undef, undef, undef, undef, undef, undef, undef, undef, undef, undef, undef, undef, undef, undef, undef, undef, undef, undef, undef, undef, undef, undef, undef, undef, undef, undef, undef, undef, undef, undef, undef, undef, undef, undef, undef], defers := [] }) (fun x => by simp only [fillL, Act.put, List.setIfInBounds_toArray, List.set_cons_zero, List.set_cons_succ, Nat.reduceAdd]) (by kernel_rfl) (by kernel_rfl) ?xst ((Below.refl _ _).drew) ?xop ?xfin
  case xst =>
    intro i v w1 w2 h hb
    rcases i with _ | _ | _ | _ | _ | _ | _ | _ | _ | _ | _ | _ | _ | _ | _ | _ | _ | _ | _ | _ | _ | _ | _ | _ | _ | _ | _ | i
    · exact h
    · exact h
    · exact h
    · exact h
    · exact h
    · exact h
    · exact h
    · exact h
    · exact h
    · exact h
    · exact h
    · exact h
    · exact h
    · exact h
    · exact h
    · exact h
    · exact h
    · exact h
    · exact SlV.keep h hb
    · exact h
    · exact h
    · exact h
    · exact h
    · exact h
    · exact h
    · exact h
    · exact h
    · exact h
  case xop =>
    refine .cons (.plain rfl fun x w1 hC hd K hK => ?_) ?_
    · exact wp_load_row 22 (.tmp 3) rfl w.heap.size rfl 22 (ivs a) (0, 0) _ ((hC.block _ (Array.getElem?_eq_some_iff.1 hxa).1).trans hxa) Try.underlying22 rfl (arr_info H.out.1) (hK _ _ (Below.refl _ _) hC rfl)
    refine .cons (.plain rfl fun x w1 hC hd K hK => ?_) ?_
    · exact wp_load_row 22 (.tmp 4) rfl (w.heap.size + 1) rfl 22 (ivs b) (0, 0) _ ((hC.block _ (Array.getElem?_eq_some_iff.1 hxb).1).trans hxb) Try.underlying22 rfl (arr_info H.out.2.1) (hK _ _ (Below.refl _ _) hC rfl)
    refine .cons (.plain rfl fun x w1 hC hd K hK => ?_) ?_
    · have d0 : x 0 = (.agg (ivs a) : Value) := hd.get 0 rfl
      have d1 : x 1 = (.agg (ivs b) : Value) := hd.get 1 rfl
      dsimp only at hK ⊢
      rw [d0, d1] at hK ⊢
      exact wp_called (f := 11) (args := #[.agg (ivs a), .agg (ivs b)]) (exec_call 11 _ rfl _ rfl rfl #[.agg (ivs a), .agg (ivs b)] rfl _ Try.func11 (by kernel_rfl) (by kernel_rfl) w1) (Compare_R a b oka okb R hR w1) (fun e w' ⟨he, hb⟩ => ⟨_, he, hK _ _ hb (hC.trans (hb.mono hC.size)) rfl⟩)
    refine .cons (.plain rfl fun x w1 hC hd K hK => ?_) ?_
    · exact wp_load_row 22 (.tmp 3) rfl w.heap.size rfl 22 (ivs a) (0, 0) _ ((hC.block _ (Array.getElem?_eq_some_iff.1 hxa).1).trans hxa) Try.underlying22 rfl (arr_info H.out.1) (hK _ _ (Below.refl _ _) hC rfl)
    refine .cons (.plain rfl fun x w1 hC hd K hK => ?_) ?_
    · exact wp_load_row 22 (.tmp 4) rfl (w.heap.size + 1) rfl 22 (ivs b) (0, 0) _ ((hC.block _ (Array.getElem?_eq_some_iff.1 hxb).1).trans hxb) Try.underlying22 rfl (arr_info H.out.2.1) (hK _ _ (Below.refl _ _) hC rfl)
    refine .cons (.plain rfl fun x w1 hC hd K hK => ?_) ?_
    · have d3 : x 3 = (.agg (ivs a) : Value) := hd.get 3 rfl
      have d4 : x 4 = (.agg (ivs b) : Value) := hd.get 4 rfl
      dsimp only at hK ⊢
      rw [d3, d4] at hK ⊢
      exact wp_called (f := 14) (args := #[.agg (ivs a), .agg (ivs b)]) (exec_call 14 _ rfl _ rfl rfl #[.agg (ivs a), .agg (ivs b)] rfl _ Try.func14 (by kernel_rfl) (by kernel_rfl) w1) (rCompare_R a b oka.len okb.len R hR w1) (fun e w' ⟨he, hb⟩ => ⟨_, he, hK _ _ hb (hC.trans (hb.mono hC.size)) rfl⟩)
    refine .cons (.plain rfl fun x w1 hC hd K hK => ?_) ?_
    · have d2 : x 2 = (.int .i64 R : Value) := hd.get 2 rfl
      have d5 : x 5 = (.int .i64 R : Value) := hd.get 5 rfl
      dsimp only at hK ⊢
      rw [d2, d5] at hK ⊢
      exact wp_value (v := (.bool false : Value)) (exec_nei _ _ (.tmp 41) (.tmp 44) rfl R rfl rfl w1) (hK _ _ (Below.refl _ _) hC rfl)
    refine .cons (.plain rfl fun x w1 hC hd K hK => ?_) ?_
    · have d6 : x 6 = (.bool false : Value) := hd.get 6 rfl
      dsimp only at hK ⊢
      rw [d6] at hK ⊢
      exact wp_value (v := (.bool false : Value)) (by rfl) (hK _ _ (Below.refl _ _) hC rfl)
    refine .cons (.yes 7 false 46 rfl rfl (fun x w1 hC hd => by have d : x 7 = .bool false := hd.get 7 rfl; show some (x 7) = _; rw [d]) fun x w1 hC hd K hK => ?_) ?_
    · exact wp_load_row 25 (.tmp 7) rfl b7 rfl 25 (ivs M) (0, 0) _ ((hC.block _ (Array.getElem?_eq_some_iff.1 hxm).1).trans hxm) Try.underlying25 rfl (vec_info okm.len) (hK _ _ (Below.refl _ _) hC rfl)
    refine .cons (.yes 7 false 46 rfl rfl (fun x w1 hC hd => by have d : x 7 = .bool false := hd.get 7 rfl; show some (x 7) = _; rw [d]) fun x w1 hC hd K hK => ?_) ?_
    · exact wp_load_row 22 (.tmp 3) rfl w.heap.size rfl 22 (ivs a) (0, 0) _ ((hC.block _ (Array.getElem?_eq_some_iff.1 hxa).1).trans hxa) Try.underlying22 rfl (arr_info H.out.1) (hK _ _ (Below.refl _ _) hC rfl)
    refine .cons (.yes 7 false 46 rfl rfl (fun x w1 hC hd => by have d : x 7 = .bool false := hd.get 7 rfl; show some (x 7) = _; rw [d]) fun x w1 hC hd K hK => ?_) ?_
    · exact wp_load_row 22 (.tmp 4) rfl (w.heap.size + 1) rfl 22 (ivs b) (0, 0) _ ((hC.block _ (Array.getElem?_eq_some_iff.1 hxb).1).trans hxb) Try.underlying22 rfl (arr_info H.out.2.1) (hK _ _ (Below.refl _ _) hC rfl)
    refine .cons (.yes 7 false 46 rfl rfl (fun x w1 hC hd => by have d : x 7 = .bool false := hd.get 7 rfl; show some (x 7) = _; rw [d]) fun x w1 hC hd K hK => ?_) ?_
    · have d9 : x 9 = (.agg (ivs a) : Value) := hd.get 9 rfl
      have d10 : x 10 = (.agg (ivs b) : Value) := hd.get 10 rfl
      dsimp only at hK ⊢
      rw [d9, d10] at hK ⊢
      exact wp_called (f := 15) (args := #[.agg (ivs a), .agg (ivs b)]) (exec_call 15 _ rfl _ rfl rfl #[.agg (ivs a), .agg (ivs b)] rfl _ Try.func15 (by kernel_rfl) (by kernel_rfl) w1) (rMerge_R a b oka.len okb.len M HM.out.2.2.2.2.2.2 w1) (fun e w' ⟨he, hb⟩ => ⟨_, he, hK _ _ hb (hC.trans (hb.mono hC.size)) rfl⟩)
    refine .cons (.yes 7 false 46 rfl rfl (fun x w1 hC hd => by have d : x 7 = .bool false := hd.get 7 rfl; show some (x 7) = _; rw [d]) fun x w1 hC hd K hK => ?_) ?_
    · have d8 : x 8 = (.agg (ivs M) : Value) := hd.get 8 rfl
      have d11 : x 11 = (.agg (ivs M) : Value) := hd.get 11 rfl
      dsimp only at hK ⊢
      rw [d8, d11] at hK ⊢
      exact wp_value (v := (.bool false : Value)) ((exec_nev (.tmp 47) (.tmp 50) _ rfl (M) (M) rfl rfl okm.len okm.len w1).trans (by simp)) (hK _ _ (Below.refl _ _) hC rfl)
    refine .cons (.plain rfl fun x w1 hC hd K hK => ?_) ?_
    · have d7 : x 7 = (.bool false : Value) := hd.get 7 rfl
      have d12 : x 12 = (.bool false : Value) := hd.get 12 rfl
      dsimp only at hK ⊢
      rw [d7, d12] at hK ⊢
      exact wp_value (v := (.bool false : Value)) (by rfl) (hK _ _ (Below.refl _ _) hC rfl)
    refine .cons (.plain rfl fun x w1 hC hd K hK => ?_) ?_
    · have d13 : x 13 = (.bool false : Value) := hd.get 13 rfl
      dsimp only at hK ⊢
      rw [d13] at hK ⊢
      exact wp_value (v := (.bool false : Value)) (by rfl) (hK _ _ (Below.refl _ _) hC rfl)
    refine .cons (.yes 14 false 53 rfl rfl (fun x w1 hC hd => by have d : x 14 = .bool false := hd.get 14 rfl; show some (x 14) = _; rw [d]) fun x w1 hC hd K hK => ?_) ?_
    · exact wp_load_row 25 (.tmp 7) rfl b7 rfl 25 (ivs M) (0, 0) _ ((hC.block _ (Array.getElem?_eq_some_iff.1 hxm).1).trans hxm) Try.underlying25 rfl (vec_info okm.len) (hK _ _ (Below.refl _ _) hC rfl)
    refine .cons (.yes 14 false 53 rfl rfl (fun x w1 hC hd => by have d : x 14 = .bool false := hd.get 14 rfl; show some (x 14) = _; rw [d]) fun x w1 hC hd K hK => ?_) ?_
    · exact wp_load_row 22 (.tmp 4) rfl (w.heap.size + 1) rfl 22 (ivs b) (0, 0) _ ((hC.block _ (Array.getElem?_eq_some_iff.1 hxb).1).trans hxb) Try.underlying22 rfl (arr_info H.out.2.1) (hK _ _ (Below.refl _ _) hC rfl)
    refine .cons (.yes 14 false 53 rfl rfl (fun x w1 hC hd => by have d : x 14 = .bool false := hd.get 14 rfl; show some (x 14) = _; rw [d]) fun x w1 hC hd K hK => ?_) ?_
    · exact wp_load_row 22 (.tmp 3) rfl w.heap.size rfl 22 (ivs a) (0, 0) _ ((hC.block _ (Array.getElem?_eq_some_iff.1 hxa).1).trans hxa) Try.underlying22 rfl (arr_info H.out.1) (hK _ _ (Below.refl _ _) hC rfl)
    refine .cons (.yes 14 false 53 rfl rfl (fun x w1 hC hd => by have d : x 14 = .bool false := hd.get 14 rfl; show some (x 14) = _; rw [d]) fun x w1 hC hd K hK => ?_) ?_
    · have d16 : x 16 = (.agg (ivs b) : Value) := hd.get 16 rfl
      have d17 : x 17 = (.agg (ivs a) : Value) := hd.get 17 rfl
      dsimp only at hK ⊢
      rw [d16, d17] at hK ⊢
      exact wp_value' (v := .slice (some ⟨w1.heap.size, 0, none⟩) 2 2) (w' := w1.alloc (.cells ([b, a].flatMap ivl).toArray 25)) (exec_build 37 2 _ rfl _ rfl (run_bs2 (b) (a) (okb.len) (oka.len) w1)) (hK _ _ ((Below.refl _ _).alloc (Nat.le_refl _) _) (hC.alloc hC.size _) (SlV.new [b, a] w1 _ 2 rfl))
    refine .cons (.yes 14 false 53 rfl rfl (fun x w1 hC hd => by have d : x 14 = .bool false := hd.get 14 rfl; show some (x 14) = _; rw [d]) fun x w1 hC hd K hK => ?_) ?_
    · have d18 : SlV [b, a] (x 18) w1 := hd.get 18 rfl
      exact wp_called (f := 13) (args := #[x 18]) (exec_call 13 _ rfl _ rfl rfl #[x 18] rfl _ Try.func13 (by kernel_rfl) (by kernel_rfl) w1) (Merge_sl [b, a] (x 18) w1 d18 (by simp [oka, okb]) (by simp) (M) HM.out.2.1) (fun e w' ⟨he, hb⟩ => ⟨_, he, hK _ _ hb (hC.trans (hb.mono hC.size)) rfl⟩)
    refine .cons (.yes 14 false 53 rfl rfl (fun x w1 hC hd => by have d : x 14 = .bool false := hd.get 14 rfl; show some (x 14) = _; rw [d]) fun x w1 hC hd K hK => ?_) ?_
    · have d15 : x 15 = (.agg (ivs M) : Value) := hd.get 15 rfl
      have d19 : x 19 = (.agg (ivs (M)) : Value) := hd.get 19 rfl
      dsimp only at hK ⊢
      rw [d15, d19] at hK ⊢
      exact wp_value (v := (.bool false : Value)) ((exec_nev (.tmp 54) (.tmp 58) _ rfl (M) (M) rfl rfl okm.len okm.len w1).trans (by simp)) (hK _ _ (Below.refl _ _) hC rfl)
    refine .cons (.plain rfl fun x w1 hC hd K hK => ?_) ?_
    · have d14 : x 14 = (.bool false : Value) := hd.get 14 rfl
      have d20 : x 20 = (.bool false : Value) := hd.get 20 rfl
      dsimp only at hK ⊢
      rw [d14, d20] at hK ⊢
      exact wp_value (v := (.bool false : Value)) (by rfl) (hK _ _ (Below.refl _ _) hC rfl)
    refine .cons (.plain rfl fun x w1 hC hd K hK => ?_) ?_
    · have d21 : x 21 = (.bool false : Value) := hd.get 21 rfl
      dsimp only at hK ⊢
      rw [d21] at hK ⊢
      exact wp_value (v := (.bool false : Value)) (by rfl) (hK _ _ (Below.refl _ _) hC rfl)
    refine .cons (.yes 22 false 61 rfl rfl (fun x w1 hC hd => by have d : x 22 = .bool false := hd.get 22 rfl; show some (x 22) = _; rw [d]) fun x w1 hC hd K hK => ?_) ?_
    · exact wp_load_row 25 (.tmp 7) rfl b7 rfl 25 (ivs M) (0, 0) _ ((hC.block _ (Array.getElem?_eq_some_iff.1 hxm).1).trans hxm) Try.underlying25 rfl (vec_info okm.len) (hK _ _ (Below.refl _ _) hC rfl)
    refine .cons (.yes 22 false 61 rfl rfl (fun x w1 hC hd => by have d : x 22 = .bool false := hd.get 22 rfl; show some (x 22) = _; rw [d]) fun x w1 hC hd K hK => ?_) ?_
    · have d23 : x 23 = (.agg (ivs M) : Value) := hd.get 23 rfl
      dsimp only at hK ⊢
      rw [d23] at hK ⊢
      exact wp_called (f := 12) (args := #[.agg (ivs M)]) (exec_call 12 _ rfl _ rfl rfl #[.agg (ivs M)] rfl _ Try.func12 (by kernel_rfl) (by kernel_rfl) w1) (vGood_R M okm.len okm.bd true HM.out.2.2.1 w1) (fun e w' ⟨he, hb⟩ => ⟨_, he, hK _ _ hb (hC.trans (hb.mono hC.size)) rfl⟩)
    refine .cons (.yes 22 false 61 rfl rfl (fun x w1 hC hd => by have d : x 22 = .bool false := hd.get 22 rfl; show some (x 22) = _; rw [d]) fun x w1 hC hd K hK => ?_) ?_
    · have d24 : x 24 = (.bool true : Value) := hd.get 24 rfl
      dsimp only at hK ⊢
      rw [d24] at hK ⊢
      exact wp_value (v := (.bool false : Value)) (by rfl) (hK _ _ (Below.refl _ _) hC rfl)
    refine .cons (.plain rfl fun x w1 hC hd K hK => ?_) ?_
    · have d22 : x 22 = (.bool false : Value) := hd.get 22 rfl
      have d25 : x 25 = (.bool false : Value) := hd.get 25 rfl
      dsimp only at hK ⊢
      rw [d22, d25] at hK ⊢
      exact wp_value (v := (.bool false : Value)) (by rfl) (hK _ _ (Below.refl _ _) hC rfl)
    exact .nil
  case xfin =>
    intro y w6 hC hΦ
    have d : y 26 = .bool false := hΦ 26 (by decide)
    dsimp only
    rw [d]
    clear hΦ
    have hxa := (hC.block _ (Array.getElem?_eq_some_iff.1 hxa).1).trans hxa
    have hxb := (hC.block _ (Array.getElem?_eq_some_iff.1 hxb).1).trans hxb
    have hxc := (hC.block _ (Array.getElem?_eq_some_iff.1 hxc).1).trans hxc
    have hb := hb.trans (hC.mono hb.size)

    have hxm := (hC.block _ (Array.getElem?_eq_some_iff.1 hxm).1).trans hxm
    clear hC d hR
    go_wp2
    refine wp_region_rel rfl (fun W' => Below w6.heap.size w6 W') (fun W1 W2 => Below W1.heap.size W1 W2)
      (fun i => ([fun v _ => v = (.agg (ivs a) : Value), fun v _ => v = (.agg (ivs b) : Value), fun v _ => v = (.agg (ivs c) : Value), SlV [a, b, c], fun v _ => v = (.agg (ivs (mg M c)) : Value), fun v _ => v = (.agg (ivs M) : Value), fun v _ => v = (.agg (ivs c) : Value), SlV [M, c], fun v _ => v = (.agg (ivs (mg M c)) : Value), fun v _ => v = (.bool false : Value), fun v _ => v = (.bool false : Value), fun v _ => v = (.agg (ivs zeros) : Value), fun v _ => v = (.agg (ivs zeros) : Value), fun v _ => v = (.bool false : Value), fun v _ => v = (.bool false : Value), fun v _ => v = (.bool false : Value), fun v _ => v = (.agg (ivs a) : Value), SlV [a], fun v _ => v = (.agg (ivs (a)) : Value), fun v _ => v = (.agg (ivs a) : Value), fun v _ => v = (.bool false : Value), fun v _ => v = (.bool false : Value)][i]?).getD (fun _ _ => True))
      (fun x => { tmps := #[.agg (ivs a), .agg (ivs b), .agg (ivs c), .pointer (some ⟨w.heap.size, 0, none⟩), .pointer (some ⟨w.heap.size + 1, 0, none⟩), .pointer (some ⟨w.heap.size + 1 + 1, 0, none⟩), .bool false, .pointer (some ⟨b7, 0, none⟩), .bool true, .bool false, .agg (ivs a), .bool true, .bool false, .bool false, .agg (ivs b), .bool true, .bool false, .bool false, .bool false, .agg (ivs c), .bool true, .bool false, .bool false, undef, undef, undef, undef, undef, undef, undef, undef, undef, undef, undef, undef, .agg (ivs a), .agg (ivs b), .slice (some ⟨b2, 0, none⟩) 2 2, .agg (ivs M), y 0, y 1, y 2, y 3, y 4, y 5, y 6, y 7, y 8, y 9, y 10, y 11, y 12, y 13, y 14, y 15, y 16, y 17, y 18, y 19, y 20, y 21, y 22, y 23, y 24, y 25, .bool false, x 0, x 1, x 2, x 3, x 4, x 5, x 6, x 7, x 8, x 9, x 10, x 11, x 12, x 13, x 14, x 15, x 16, x 17, x 18, x 19, x 20, x 21, undef, undef, undef, undef, undef, undef, undef, undef, undef, undef, undef, undef, undef, undef, undef], defers := [] }) (fun x => by simp only [fillL, Act.put, List.setIfInBounds_toArray, List.set_cons_zero, List.set_cons_succ, Nat.reduceAdd]) (by kernel_rfl) (by kernel_rfl) ?xst ((Below.refl _ _).drew) ?xop ?xfin
    case xst =>
      intro i v w1 w2 h hb
      rcases i with _ | _ | _ | _ | _ | _ | _ | _ | _ | _ | _ | _ | _ | _ | _ | _ | _ | _ | _ | _ | _ | _ | i
      · exact h
      · exact h
      · exact h
      · exact SlV.keep h hb
      · exact h
      · exact h
      · exact h
      · exact SlV.keep h hb
      · exact h
      · exact h
      · exact h
      · exact h
      · exact h
      · exact h
      · exact h
      · exact h
      · exact h
      · exact SlV.keep h hb
      · exact h
      · exact h
      · exact h
      · exact h
      · exact h
    case xop =>
      refine .cons (.plain rfl fun x w1 hC hd K hK => ?_) ?_
      · exact wp_load_row 22 (.tmp 3) rfl w.heap.size rfl 22 (ivs a) (0, 0) _ ((hC.block _ (Array.getElem?_eq_some_iff.1 hxa).1).trans hxa) Try.underlying22 rfl (arr_info H.out.1) (hK _ _ (Below.refl _ _) hC rfl)
      refine .cons (.plain rfl fun x w1 hC hd K hK => ?_) ?_
      · exact wp_load_row 22 (.tmp 4) rfl (w.heap.size + 1) rfl 22 (ivs b) (0, 0) _ ((hC.block _ (Array.getElem?_eq_some_iff.1 hxb).1).trans hxb) Try.underlying22 rfl (arr_info H.out.2.1) (hK _ _ (Below.refl _ _) hC rfl)
      refine .cons (.plain rfl fun x w1 hC hd K hK => ?_) ?_
      · exact wp_load_row 22 (.tmp 5) rfl (w.heap.size + 1 + 1) rfl 22 (ivs c) (0, 0) _ ((hC.block _ (Array.getElem?_eq_some_iff.1 hxc).1).trans hxc) Try.underlying22 rfl (arr_info H.out.2.2.1) (hK _ _ (Below.refl _ _) hC rfl)
      refine .cons (.plain rfl fun x w1 hC hd K hK => ?_) ?_
      · have d0 : x 0 = (.agg (ivs a) : Value) := hd.get 0 rfl
        have d1 : x 1 = (.agg (ivs b) : Value) := hd.get 1 rfl
        have d2 : x 2 = (.agg (ivs c) : Value) := hd.get 2 rfl
        dsimp only at hK ⊢
        rw [d0, d1, d2] at hK ⊢
        exact wp_value' (v := .slice (some ⟨w1.heap.size, 0, none⟩) 3 3) (w' := w1.alloc (.cells ([a, b, c].flatMap ivl).toArray 25)) (exec_build 37 3 _ rfl _ rfl (run_bs3 (a) (b) (c) (oka.len) (okb.len) (okc.len) w1)) (hK _ _ ((Below.refl _ _).alloc (Nat.le_refl _) _) (hC.alloc hC.size _) (SlV.new [a, b, c] w1 _ 3 rfl))
      refine .cons (.plain rfl fun x w1 hC hd K hK => ?_) ?_
      · have d3 : SlV [a, b, c] (x 3) w1 := hd.get 3 rfl
        exact wp_called (f := 13) (args := #[x 3]) (exec_call 13 _ rfl _ rfl rfl #[x 3] rfl _ Try.func13 (by kernel_rfl) (by kernel_rfl) w1) (Merge_sl [a, b, c] (x 3) w1 d3 (by simp [oka, okb, okc]) (by simp) (mg M c) HM.out.2.2.2.1) (fun e w' ⟨he, hb⟩ => ⟨_, he, hK _ _ hb (hC.trans (hb.mono hC.size)) rfl⟩)
      refine .cons (.plain rfl fun x w1 hC hd K hK => ?_) ?_
      · exact wp_load_row 25 (.tmp 7) rfl b7 rfl 25 (ivs M) (0, 0) _ ((hC.block _ (Array.getElem?_eq_some_iff.1 hxm).1).trans hxm) Try.underlying25 rfl (vec_info okm.len) (hK _ _ (Below.refl _ _) hC rfl)
      refine .cons (.plain rfl fun x w1 hC hd K hK => ?_) ?_
      · exact wp_load_row 22 (.tmp 5) rfl (w.heap.size + 1 + 1) rfl 22 (ivs c) (0, 0) _ ((hC.block _ (Array.getElem?_eq_some_iff.1 hxc).1).trans hxc) Try.underlying22 rfl (arr_info H.out.2.2.1) (hK _ _ (Below.refl _ _) hC rfl)
      refine .cons (.plain rfl fun x w1 hC hd K hK => ?_) ?_
      · have d5 : x 5 = (.agg (ivs M) : Value) := hd.get 5 rfl
        have d6 : x 6 = (.agg (ivs c) : Value) := hd.get 6 rfl
        dsimp only at hK ⊢
        rw [d5, d6] at hK ⊢
        exact wp_value' (v := .slice (some ⟨w1.heap.size, 0, none⟩) 2 2) (w' := w1.alloc (.cells ([M, c].flatMap ivl).toArray 25)) (exec_build 37 2 _ rfl _ rfl (run_bs2 (M) (c) (okm.len) (okc.len) w1)) (hK _ _ ((Below.refl _ _).alloc (Nat.le_refl _) _) (hC.alloc hC.size _) (SlV.new [M, c] w1 _ 2 rfl))
      refine .cons (.plain rfl fun x w1 hC hd K hK => ?_) ?_
      · have d7 : SlV [M, c] (x 7) w1 := hd.get 7 rfl
        exact wp_called (f := 13) (args := #[x 7]) (exec_call 13 _ rfl _ rfl rfl #[x 7] rfl _ Try.func13 (by kernel_rfl) (by kernel_rfl) w1) (Merge_sl [M, c] (x 7) w1 d7 (by simp [okm, okc]) (by simp) (mg M c) HM.out.2.2.2.2.1) (fun e w' ⟨he, hb⟩ => ⟨_, he, hK _ _ hb (hC.trans (hb.mono hC.size)) rfl⟩)
      refine .cons (.plain rfl fun x w1 hC hd K hK => ?_) ?_
      · have d4 : x 4 = (.agg (ivs (mg M c)) : Value) := hd.get 4 rfl
        have d8 : x 8 = (.agg (ivs (mg M c)) : Value) := hd.get 8 rfl
        dsimp only at hK ⊢
        rw [d4, d8] at hK ⊢
        exact wp_value (v := (.bool false : Value)) ((exec_nev (.tmp 70) (.tmp 74) _ rfl (mg M c) (mg M c) rfl rfl (mg_length _ _) (mg_length _ _) w1).trans (by simp)) (hK _ _ (Below.refl _ _) hC rfl)
      refine .cons (.plain rfl fun x w1 hC hd K hK => ?_) ?_
      · have d9 : x 9 = (.bool false : Value) := hd.get 9 rfl
        dsimp only at hK ⊢
        rw [d9] at hK ⊢
        exact wp_value (v := (.bool false : Value)) (by rfl) (hK _ _ (Below.refl _ _) hC rfl)
      refine .cons (.yes 10 false 76 rfl rfl (fun x w1 hC hd => by have d : x 10 = .bool false := hd.get 10 rfl; show some (x 10) = _; rw [d]) fun x w1 hC hd K hK => ?_) ?_
      · exact wp_called (f := 13) (args := #[.slice none 0 0]) (exec_call 13 _ rfl _ rfl rfl #[.slice none 0 0] rfl _ Try.func13 (by kernel_rfl) (by kernel_rfl) w1) (Merge_sl [] (.slice none 0 0) w1 ⟨none, 0, rfl, RowV.nil _ _⟩ (by simp) (by simp) zeros rfl) (fun e w' ⟨he, hb⟩ => ⟨_, he, hK _ _ hb (hC.trans (hb.mono hC.size)) rfl⟩)
      refine .cons (.yes 10 false 76 rfl rfl (fun x w1 hC hd => by have d : x 10 = .bool false := hd.get 10 rfl; show some (x 10) = _; rw [d]) fun x w1 hC hd K hK => ?_) ?_
      · exact wp_value (v := (.agg (ivs zeros) : Value)) (exec_zero #[] rfl rfl w1) (hK _ _ (Below.refl _ _) hC rfl)
      refine .cons (.yes 10 false 76 rfl rfl (fun x w1 hC hd => by have d : x 10 = .bool false := hd.get 10 rfl; show some (x 10) = _; rw [d]) fun x w1 hC hd K hK => ?_) ?_
      · have d11 : x 11 = (.agg (ivs zeros) : Value) := hd.get 11 rfl
        have d12 : x 12 = (.agg (ivs zeros) : Value) := hd.get 12 rfl
        dsimp only at hK ⊢
        rw [d11, d12] at hK ⊢
        exact wp_value (v := (.bool false : Value)) ((exec_nev (.tmp 77) (.tmp 78) _ rfl (zeros) (zeros) rfl rfl rfl rfl w1).trans (by simp)) (hK _ _ (Below.refl _ _) hC rfl)
      refine .cons (.plain rfl fun x w1 hC hd K hK => ?_) ?_
      · have d10 : x 10 = (.bool false : Value) := hd.get 10 rfl
        have d13 : x 13 = (.bool false : Value) := hd.get 13 rfl
        dsimp only at hK ⊢
        rw [d10, d13] at hK ⊢
        exact wp_value (v := (.bool false : Value)) (by rfl) (hK _ _ (Below.refl _ _) hC rfl)
      refine .cons (.plain rfl fun x w1 hC hd K hK => ?_) ?_
      · have d14 : x 14 = (.bool false : Value) := hd.get 14 rfl
        dsimp only at hK ⊢
        rw [d14] at hK ⊢
        exact wp_value (v := (.bool false : Value)) (by rfl) (hK _ _ (Below.refl _ _) hC rfl)
      refine .cons (.yes 15 false 81 rfl rfl (fun x w1 hC hd => by have d : x 15 = .bool false := hd.get 15 rfl; show some (x 15) = _; rw [d]) fun x w1 hC hd K hK => ?_) ?_
      · exact wp_load_row 22 (.tmp 3) rfl w.heap.size rfl 22 (ivs a) (0, 0) _ ((hC.block _ (Array.getElem?_eq_some_iff.1 hxa).1).trans hxa) Try.underlying22 rfl (arr_info H.out.1) (hK _ _ (Below.refl _ _) hC rfl)
      refine .cons (.yes 15 false 81 rfl rfl (fun x w1 hC hd => by have d : x 15 = .bool false := hd.get 15 rfl; show some (x 15) = _; rw [d]) fun x w1 hC hd K hK => ?_) ?_
      · have d16 : x 16 = (.agg (ivs a) : Value) := hd.get 16 rfl
        dsimp only at hK ⊢
        rw [d16] at hK ⊢
        exact wp_value' (v := .slice (some ⟨w1.heap.size, 0, none⟩) 1 1) (w' := w1.alloc (.cells ([a].flatMap ivl).toArray 25)) (exec_build 37 1 _ rfl _ rfl (run_bs1 (a) (oka.len) w1)) (hK _ _ ((Below.refl _ _).alloc (Nat.le_refl _) _) (hC.alloc hC.size _) (SlV.new [a] w1 _ 1 rfl))
      refine .cons (.yes 15 false 81 rfl rfl (fun x w1 hC hd => by have d : x 15 = .bool false := hd.get 15 rfl; show some (x 15) = _; rw [d]) fun x w1 hC hd K hK => ?_) ?_
      · have d17 : SlV [a] (x 17) w1 := hd.get 17 rfl
        exact wp_called (f := 13) (args := #[x 17]) (exec_call 13 _ rfl _ rfl rfl #[x 17] rfl _ Try.func13 (by kernel_rfl) (by kernel_rfl) w1) (Merge_sl [a] (x 17) w1 d17 (by simp [oka]) (by simp) (a) (mgl_one oka)) (fun e w' ⟨he, hb⟩ => ⟨_, he, hK _ _ hb (hC.trans (hb.mono hC.size)) rfl⟩)
      refine .cons (.yes 15 false 81 rfl rfl (fun x w1 hC hd => by have d : x 15 = .bool false := hd.get 15 rfl; show some (x 15) = _; rw [d]) fun x w1 hC hd K hK => ?_) ?_
      · exact wp_load_row 22 (.tmp 3) rfl w.heap.size rfl 22 (ivs a) (0, 0) _ ((hC.block _ (Array.getElem?_eq_some_iff.1 hxa).1).trans hxa) Try.underlying22 rfl (arr_info H.out.1) (hK _ _ (Below.refl _ _) hC rfl)
      refine .cons (.yes 15 false 81 rfl rfl (fun x w1 hC hd => by have d : x 15 = .bool false := hd.get 15 rfl; show some (x 15) = _; rw [d]) fun x w1 hC hd K hK => ?_) ?_
      · have d18 : x 18 = (.agg (ivs (a)) : Value) := hd.get 18 rfl
        have d19 : x 19 = (.agg (ivs a) : Value) := hd.get 19 rfl
        dsimp only at hK ⊢
        rw [d18, d19] at hK ⊢
        exact wp_value (v := (.bool false : Value)) ((exec_nev (.tmp 84) (.tmp 85) _ rfl (a) (a) rfl rfl oka.len oka.len w1).trans (by simp)) (hK _ _ (Below.refl _ _) hC rfl)
      refine .cons (.plain rfl fun x w1 hC hd K hK => ?_) ?_
      · have d15 : x 15 = (.bool false : Value) := hd.get 15 rfl
        have d20 : x 20 = (.bool false : Value) := hd.get 20 rfl
        dsimp only at hK ⊢
        rw [d15, d20] at hK ⊢
        exact wp_value (v := (.bool false : Value)) (by rfl) (hK _ _ (Below.refl _ _) hC rfl)
      exact .nil
    case xfin =>
      intro z w8 hC hΦ
      have d : z 21 = .bool false := hΦ 21 (by decide)
      dsimp only
      rw [d]
      clear hΦ
      have hxa := (hC.block _ (Array.getElem?_eq_some_iff.1 hxa).1).trans hxa
      have hxb := (hC.block _ (Array.getElem?_eq_some_iff.1 hxb).1).trans hxb
      have hxc := (hC.block _ (Array.getElem?_eq_some_iff.1 hxc).1).trans hxc
      have hb := hb.trans (hC.mono hb.size)

      have hxm := (hC.block _ (Array.getElem?_eq_some_iff.1 hxm).1).trans hxm
      clear hC d
      generalize y 0 = y0 at *
      obtain ⟨Ca, hCa⟩ : ∃ v, cov c a = v := ⟨_, rfl⟩
      obtain ⟨Cb, hCb⟩ : ∃ v, cov c b = v := ⟨_, rfl⟩
      have la := arr_info H.out.1
      have lb := arr_info H.out.2.1
      have lc := arr_info H.out.2.2.1
      have lm := vec_info okm.len

      go_wp2_with (first | (refine wpList_load_row rfl 22 (.tmp 5) rfl (w.heap.size + 1 + 1) rfl 22 (ivs c) (0, 0) _ hxc Try.underlying22 rfl lc ?_) | (refine wpList_load_row rfl 22 (.tmp 3) rfl w.heap.size rfl 22 (ivs a) (0, 0) _ hxa Try.underlying22 rfl la ?_) | (refine wpList_load_rowg (by rfl) 22 (.tmp 5) rfl (w.heap.size + 1 + 1) rfl 22 (ivs c) (0, 0) _ hxc Try.underlying22 rfl lc ?_) | (refine wpList_load_rowg (by rfl) 22 (.tmp 4) rfl (w.heap.size + 1) rfl 22 (ivs b) (0, 0) _ hxb Try.underlying22 rfl lb ?_) | (refine wpList_load_rowg (by rfl) 25 (.tmp 7) rfl b7 rfl 25 (ivs M) (0, 0) _ hxm Try.underlying25 rfl lm ?_))
      refine (rCovers_R c a okc.len oka.len Ca hCa _).mono ?_
      rintro e w9 ⟨rfl, h9⟩
      have hxa := (h9.block _ (Array.getElem?_eq_some_iff.1 hxa).1).trans hxa
      have hxb := (h9.block _ (Array.getElem?_eq_some_iff.1 hxb).1).trans hxb
      have hxc := (h9.block _ (Array.getElem?_eq_some_iff.1 hxc).1).trans hxc
      have hb := hb.trans (h9.mono hb.size)
      have hxm := (h9.block _ (Array.getElem?_eq_some_iff.1 hxm).1).trans hxm

      rcases Ca with _ | _
      · go_wp2_with (first | (refine wpList_load_row rfl 22 (.tmp 5) rfl (w.heap.size + 1 + 1) rfl 22 (ivs c) (0, 0) _ hxc Try.underlying22 rfl lc ?_) | (refine wpList_load_row rfl 22 (.tmp 3) rfl w.heap.size rfl 22 (ivs a) (0, 0) _ hxa Try.underlying22 rfl la ?_) | (refine wpList_load_rowg (by rfl) 22 (.tmp 5) rfl (w.heap.size + 1 + 1) rfl 22 (ivs c) (0, 0) _ hxc Try.underlying22 rfl lc ?_) | (refine wpList_load_rowg (by rfl) 22 (.tmp 4) rfl (w.heap.size + 1) rfl 22 (ivs b) (0, 0) _ hxb Try.underlying22 rfl lb ?_) | (refine wpList_load_rowg (by rfl) 25 (.tmp 7) rfl b7 rfl 25 (ivs M) (0, 0) _ hxm Try.underlying25 rfl lm ?_))
        go_ret
        exact ⟨rfl, hb⟩
      · go_wp2_with (first | (refine wpList_load_row rfl 22 (.tmp 5) rfl (w.heap.size + 1 + 1) rfl 22 (ivs c) (0, 0) _ hxc Try.underlying22 rfl lc ?_) | (refine wpList_load_row rfl 22 (.tmp 3) rfl w.heap.size rfl 22 (ivs a) (0, 0) _ hxa Try.underlying22 rfl la ?_) | (refine wpList_load_rowg (by rfl) 22 (.tmp 5) rfl (w.heap.size + 1 + 1) rfl 22 (ivs c) (0, 0) _ hxc Try.underlying22 rfl lc ?_) | (refine wpList_load_rowg (by rfl) 22 (.tmp 4) rfl (w.heap.size + 1) rfl 22 (ivs b) (0, 0) _ hxb Try.underlying22 rfl lb ?_) | (refine wpList_load_rowg (by rfl) 25 (.tmp 7) rfl b7 rfl 25 (ivs M) (0, 0) _ hxm Try.underlying25 rfl lm ?_))
        refine (rCovers_R c b okc.len okb.len Cb hCb _).mono ?_
        rintro e w10 ⟨rfl, h10⟩
        have hxa := (h10.block _ (Array.getElem?_eq_some_iff.1 hxa).1).trans hxa
        have hxb := (h10.block _ (Array.getElem?_eq_some_iff.1 hxb).1).trans hxb
        have hxc := (h10.block _ (Array.getElem?_eq_some_iff.1 hxc).1).trans hxc
        have hb := hb.trans (h10.mono hb.size)
        have hxm := (h10.block _ (Array.getElem?_eq_some_iff.1 hxm).1).trans hxm

        rcases Cb with _ | _
        · go_wp2_with (first | (refine wpList_load_row rfl 22 (.tmp 5) rfl (w.heap.size + 1 + 1) rfl 22 (ivs c) (0, 0) _ hxc Try.underlying22 rfl lc ?_) | (refine wpList_load_row rfl 22 (.tmp 3) rfl w.heap.size rfl 22 (ivs a) (0, 0) _ hxa Try.underlying22 rfl la ?_) | (refine wpList_load_rowg (by rfl) 22 (.tmp 5) rfl (w.heap.size + 1 + 1) rfl 22 (ivs c) (0, 0) _ hxc Try.underlying22 rfl lc ?_) | (refine wpList_load_rowg (by rfl) 22 (.tmp 4) rfl (w.heap.size + 1) rfl 22 (ivs b) (0, 0) _ hxb Try.underlying22 rfl lb ?_) | (refine wpList_load_rowg (by rfl) 25 (.tmp 7) rfl b7 rfl 25 (ivs M) (0, 0) _ hxm Try.underlying25 rfl lm ?_))
          go_ret
          exact ⟨rfl, hb⟩
        · go_wp2_with (first | (refine wpList_load_row rfl 22 (.tmp 5) rfl (w.heap.size + 1 + 1) rfl 22 (ivs c) (0, 0) _ hxc Try.underlying22 rfl lc ?_) | (refine wpList_load_row rfl 22 (.tmp 3) rfl w.heap.size rfl 22 (ivs a) (0, 0) _ hxa Try.underlying22 rfl la ?_) | (refine wpList_load_rowg (by rfl) 22 (.tmp 5) rfl (w.heap.size + 1 + 1) rfl 22 (ivs c) (0, 0) _ hxc Try.underlying22 rfl lc ?_) | (refine wpList_load_rowg (by rfl) 22 (.tmp 4) rfl (w.heap.size + 1) rfl 22 (ivs b) (0, 0) _ hxb Try.underlying22 rfl lb ?_) | (refine wpList_load_rowg (by rfl) 25 (.tmp 7) rfl b7 rfl 25 (ivs M) (0, 0) _ hxm Try.underlying25 rfl lm ?_))
          refine (rCovers_R c M okc.len okm.len true (HM.out.2.2.2.2.2.1 hCa hCb) _).mono ?_
          rintro e w11 ⟨rfl, h11⟩
          have hb := hb.trans (h11.mono hb.size)
          go_wp2
          go_ret
          exact ⟨rfl, hb⟩

theorem VectorOrders_walk (a b c : List Int) (w : World) (la : a.length = 16) (ba : ∀ i : Nat, -9223372036854775808 ≤ a[i]?.getD 0 ∧ a[i]?.getD 0 ≤ 9223372036854775807) (lb : b.length = 16) (bb : ∀ i : Nat, -9223372036854775808 ≤ b[i]?.getD 0 ∧ b[i]?.getD 0 ≤ 9223372036854775807) (lc : c.length = 16) (bc : ∀ i : Nat, -9223372036854775808 ≤ c[i]?.getD 0 ∧ c[i]?.getD 0 ≤ 9223372036854775807) :
    Calls Try.prog 4 #[.agg (ivs a), .agg (ivs b), .agg (ivs c)] w fun e w' => e = .returned (.bool true) ∧ Below w.heap.size w w' := by
  cases ga : good a with
  | false => exact orders_a a b c ⟨la, ba⟩ ⟨lb, bb⟩ ⟨lc, bc⟩ ga _ rfl w
  | true =>
    cases gb : good b with
    | false => exact orders_b a b c ⟨la, ba⟩ ⟨lb, bb⟩ ⟨lc, bc⟩ ga gb w
    | true =>
      cases gc : good c with
      | false => exact orders_c a b c ⟨la, ba⟩ ⟨lb, bb⟩ ⟨lc, bc⟩ ga gb gc w
      | true => exact orders_g a b c ⟨la, ba⟩ ⟨lb, bb⟩ ⟨lc, bc⟩ ga gb gc w

end Go.Proofs.Ytilnkfcggfaheaa
