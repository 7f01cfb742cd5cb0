/-
  The walk of VectorOrders.
-/
import Derived.Test.YtilnkfcggfaheaaVecRMerge
import Derived.Test.YtilnkfcggfaheaaVecBumpW
namespace Go.Proofs.Ytilnkfcggfaheaa
open Go.RowKit Go.Shelf

theorem vGood_R (V : List Int) (hV : V.length = 16) (hb : ∀ i : Nat, -9223372036854775808 ≤ V[i]?.getD 0 ∧ V[i]?.getD 0 ≤ 9223372036854775807) (R : Bool) (hR : good V = R) (w : World) :
    Calls Try.prog 12 #[.agg (ivs V)] w fun e w' => e = .returned (.bool R) ∧ Below w.heap.size w w' := by
  rw [← hR]; exact vGood_any V hV hb w
theorem rCompare_R (U V : List Int) (hU : U.length = 16) (hV : V.length = 16) (R : Int) (hR : cmpv U V = R) (w : World) :
    Calls Try.prog 14 #[.agg (ivs U), .agg (ivs V)] w fun e w' => e = .returned (.int .i64 R) ∧ Below w.heap.size w w' := by
  rw [← hR]; exact rCompare_any U V hU hV w
theorem mgl_three {U V X : List Int} (hU : VecOk U) : mgl [U, V, X] = mg (mg U V) X := by
  show mg (mg (mg zeros U) V) X = _
  rw [mg_zeros hU]
theorem mgl_one {U : List Int} (hU : VecOk U) : mgl [U] = U := mg_zeros hU
theorem mgl_nil : mgl [] = zeros := rfl
theorem mg_comm (U V : List Int) : mg U V = mg V U :=
  ext16 (mg_length _ _) (mg_length _ _) fun i hi => by rw [mg_get _ _ _ hi, mg_get _ _ _ hi]; omega
theorem good_mg {U V : List Int} (hU : good U = true) (hV : good V = true) : good (mg U V) = true := good_of fun i hi => by
  rw [mg_get _ _ _ hi]; have := good_at hU i hi; have := good_at hV i hi; omega
theorem cov_mg {U V X : List Int} (h1 : cov X U = true) (h2 : cov X V = true) : cov X (mg U V) = true := cov_of fun i hi => by
  rw [mg_get _ _ _ hi]; have := cov_at h1 i hi; have := cov_at h2 i hi; omega
theorem VecOk.bd {V : List Int} (h : VecOk V) (i : Nat) : -9223372036854775808 ≤ V[i]?.getD 0 ∧ V[i]?.getD 0 ≤ 9223372036854775807 := by
  have := h.lo i; have := h.hi i; omega

theorem exec_nei {P : Program} {ρ : Operand → Value} {o : Oper} (T R : TypeId) (x y : Operand) (ho : o.op = .binOp .neq T x y R) (n : Int) (hx : ρ x = .int .i64 n) (hy : ρ y = .int .i64 n) (w : World) :
    (execOp ρ o).run P w = .ok (.value (.bool false)) w := by
  unfold execOp
  rw [ho]
  simp [hx, hy, go_sem, eqGuard, Go.binOp, Op.intCmp]
theorem exec_eqb {ρ : Operand → Value} {o : Oper} (R : TypeId) (x y : Operand) (ho : o.op = .binOp .eql 4 x y R) (b : Bool) (hx : ρ x = .bool b) (hy : ρ y = .bool b) (w : World) :
    (execOp ρ o).run Try.prog w = .ok (.value (.bool true)) w := by
  unfold execOp
  rw [ho]
  have e : Go.binOp .eql 4 (.bool b) (.bool b) = (do pure (.bool (← Op.equal 4 (.bool b) (.bool b)))) := rfl
  have g : eqGuard .eql 4 x y (.bool b) (.bool b) = pure () := rfl
  simp only [hx, hy, e, g, Sem.run_bind, Sem.run_pure, Result.andThen_ok, run_equal_bool (P := Try.prog) (w := w) 4 b b Try.underlying4]
  simp

set_option maxRecDepth 100000 in
set_option maxHeartbeats 1000000 in
theorem orders_a (a b c : List Int) (oa : a.length = 16 ∧ ∀ i : Nat, -9223372036854775808 ≤ a[i]?.getD 0 ∧ a[i]?.getD 0 ≤ 9223372036854775807) (ob : b.length = 16 ∧ ∀ i : Nat, -9223372036854775808 ≤ b[i]?.getD 0 ∧ b[i]?.getD 0 ≤ 9223372036854775807) (oc : c.length = 16 ∧ ∀ i : Nat, -9223372036854775808 ≤ c[i]?.getD 0 ∧ c[i]?.getD 0 ≤ 9223372036854775807) (ga : good a = false) (rb : Bool) (gb : good b = rb) (w : World) :
    Calls Try.prog 4 #[.agg (ivs a), .agg (ivs b), .agg (ivs c)] w fun e w' => e = .returned (.bool true) ∧ Below w.heap.size w w' := by
  have la := oa.1
  have lb := ob.1
  have lc := oc.1
  have bda := oa.2
  have bdb := ob.2
  have bdc := oc.2
  obtain ⟨W, hW⟩ : ∃ W, ((w.alloc (.cells (ivs a) 22)).alloc (.cells (ivs b) 22)).alloc (.cells (ivs c) 22) = W := ⟨_, rfl⟩
  have hxa : W.heap[w.heap.size]? = some (.cells (ivs a) 22 (0, 0)) := by
    rw [← hW]; exact (((Below.refl _ ((w.alloc (.cells (ivs a) 22)).alloc (.cells (ivs b) 22))).alloc (Nat.le_refl _) (.cells (ivs c) 22)).block _ (by simp; omega)).trans (heap_alloc2_old w _ _)
  have hxb : W.heap[w.heap.size + 1]? = some (.cells (ivs b) 22 (0, 0)) := by
    rw [← hW]; exact (((Below.refl _ ((w.alloc (.cells (ivs a) 22)).alloc (.cells (ivs b) 22))).alloc (Nat.le_refl _) (.cells (ivs c) 22)).block _ (by simp)).trans (heap_alloc2_new w _ _)
  have hxc : W.heap[w.heap.size + 1 + 1]? = some (.cells (ivs c) 22 (0, 0)) := by
    rw [← hW]; have := heap_alloc_new ((w.alloc (.cells (ivs a) 22)).alloc (.cells (ivs b) 22)) (Obj.cells (ivs c) 22); simpa using this
  have hb : Below w.heap.size w W := by
    rw [← hW]; exact (((Below.refl _ w).alloc (Nat.le_refl _) _).alloc (by simp) _).alloc (by simp; omega) _
  obtain ⟨H⟩ : Nonempty (Hid (a.length = 16 ∧ b.length = 16 ∧ c.length = 16 ∧ (∀ i : Nat, -9223372036854775808 ≤ a[i]?.getD 0 ∧ a[i]?.getD 0 ≤ 9223372036854775807) ∧ (∀ i : Nat, -9223372036854775808 ≤ b[i]?.getD 0 ∧ b[i]?.getD 0 ≤ 9223372036854775807) ∧ (∀ i : Nat, -9223372036854775808 ≤ c[i]?.getD 0 ∧ c[i]?.getD 0 ≤ 9223372036854775807))) := ⟨Lib.hid ⟨la, lb, lc, bda, bdb, bdc⟩⟩
  clear la lb lc bda bdb bdc oa ob oc
  go_enter Try.func4, Try.ntmps4
  go_wp2_with (fail)
  clear hW

  refine (awake_any _).mono ?_
  rintro e w1 ⟨rfl, h1⟩
  have hxa := (h1.block _ (Array.getElem?_eq_some_iff.1 hxa).1).trans hxa
  have hxb := (h1.block _ (Array.getElem?_eq_some_iff.1 hxb).1).trans hxb
  have hxc := (h1.block _ (Array.getElem?_eq_some_iff.1 hxc).1).trans hxc
  have hb := hb.trans (h1.mono hb.size)
  clear h1
  go_wp2_with (first | (refine wpList_load_row rfl 22 (.tmp 3) rfl w.heap.size rfl 22 (ivs a) (0, 0) _ hxa Try.underlying22 rfl (arr_info H.out.1) ?_) | (refine wpList_load_rowg (by rfl) 22 (.tmp 4) rfl (w.heap.size + 1) rfl 22 (ivs b) (0, 0) _ hxb Try.underlying22 rfl (arr_info H.out.2.1) ?_) | (refine wpList_load_rowg (by rfl) 22 (.tmp 5) rfl (w.heap.size + 1 + 1) rfl 22 (ivs c) (0, 0) _ hxc Try.underlying22 rfl (arr_info H.out.2.2.1) ?_))
  refine (rGood_R a H.out.1 H.out.2.2.2.1 false ga _).mono ?_
  rintro e v0 ⟨rfl, hv0⟩
  have hxa := (hv0.block _ (Array.getElem?_eq_some_iff.1 hxa).1).trans hxa
  have hxb := (hv0.block _ (Array.getElem?_eq_some_iff.1 hxb).1).trans hxb
  have hxc := (hv0.block _ (Array.getElem?_eq_some_iff.1 hxc).1).trans hxc
  have hb := hb.trans (hv0.mono hb.size)
  clear hv0

  go_wp2_with (fail)
  generalize v0 = W at *
  have la := H.out.1
  have lb := H.out.2.1
  have bda := H.out.2.2.2.1
  have bdb := H.out.2.2.2.2.1
  refine wp_region_rel rfl (fun W' => Below W.heap.size W W') (fun W1 W2 => Below W1.heap.size W1 W2)
    (fun i => ([fun v _ => v = (.agg (ivs a) : Value), fun v _ => v = (.bool false : Value), fun v _ => v = (.agg (ivs a) : Value), fun v _ => v = (.bool false : Value), fun v _ => v = (.bool true : Value), fun v _ => v = (.bool true : Value), fun v _ => v = (.agg (ivs b) : Value), fun v _ => v = (.bool rb : Value), fun v _ => v = (.agg (ivs b) : Value), fun v _ => v = (.bool rb : Value), fun v _ => v = (.bool true : Value), fun v _ => v = (.bool true : Value), fun v _ => v = (.bool true : Value)][i]?).getD (fun _ _ => True))
    (fun x => { tmps := #[.agg (ivs a), .agg (ivs b), .agg (ivs c), .pointer (some ⟨w.heap.size, 0, none⟩), .pointer (some ⟨w.heap.size + 1, 0, none⟩), .pointer (some ⟨w.heap.size + 1 + 1, 0, none⟩), x 12, undef, .bool true, .bool false, .agg (ivs a), .bool false, .bool true, .bool true, undef, undef, undef, .bool true, .bool true, undef, undef, undef, .bool true, x 0, x 1, x 2, x 3, x 4, x 5, x 6, x 7, x 8, x 9, x 10, x 11, undef, undef, undef, undef, undef, undef, undef, undef, undef, undef, undef, undef, undef, undef, undef, undef, undef, undef, undef, undef, undef, undef, undef, undef, undef, undef, undef, undef, undef, undef, undef, undef, undef, undef, undef, undef, undef, undef, undef, undef, undef, undef, undef, undef, undef, undef, undef, undef, undef, undef, undef, undef, undef, undef, undef, undef, undef, undef, undef, undef, undef, undef, undef, undef, undef, undef, undef, undef], defers := [] }) (fun x => by simp only [fillL, Act.put, List.setIfInBounds_toArray, List.set_cons_zero, List.set_cons_succ, Nat.reduceAdd]) (by kernel_rfl) (by kernel_rfl) ?xst ((Below.refl _ _).drew) ?xop ?xfin
  case xst =>
    intro i v w1 w2 h hb
    rcases i with _ | _ | _ | _ | _ | _ | _ | _ | _ | _ | _ | _ | _ | i
    · exact h
    · exact h
    · exact h
    · exact h
    · exact h
    · exact h
    · exact h
    · exact h
    · exact h
    · exact h
    · exact h
    · exact h
    · exact h
    · exact h
  case xop =>
    refine .cons (.plain rfl fun x w1 hC hd K hK => ?_) ?_
    · exact wp_load_row 22 (.tmp 3) rfl w.heap.size rfl 22 (ivs a) (0, 0) _ ((hC.block _ (Array.getElem?_eq_some_iff.1 hxa).1).trans hxa) Try.underlying22 rfl (arr_info la) (hK _ _ (Below.refl _ _) hC rfl)
    refine .cons (.plain rfl fun x w1 hC hd K hK => ?_) ?_
    · have d0 : x 0 = (.agg (ivs a) : Value) := hd.get 0 rfl
      dsimp only at hK ⊢
      rw [d0] at hK ⊢
      exact wp_called (f := 12) (args := #[.agg (ivs a)]) (exec_call 12 _ rfl _ rfl rfl #[.agg (ivs a)] rfl _ Try.func12 (by kernel_rfl) (by kernel_rfl) w1) (vGood_R a la bda false ga w1) (fun e w' ⟨he, hb⟩ => ⟨_, he, hK _ _ hb (hC.trans (hb.mono hC.size)) rfl⟩)
    refine .cons (.plain rfl fun x w1 hC hd K hK => ?_) ?_
    · exact wp_load_row 22 (.tmp 3) rfl w.heap.size rfl 22 (ivs a) (0, 0) _ ((hC.block _ (Array.getElem?_eq_some_iff.1 hxa).1).trans hxa) Try.underlying22 rfl (arr_info la) (hK _ _ (Below.refl _ _) hC rfl)
    refine .cons (.plain rfl fun x w1 hC hd K hK => ?_) ?_
    · have d2 : x 2 = (.agg (ivs a) : Value) := hd.get 2 rfl
      dsimp only at hK ⊢
      rw [d2] at hK ⊢
      exact wp_called (f := 9) (args := #[.agg (ivs a)]) (exec_call 9 _ rfl _ rfl rfl #[.agg (ivs a)] rfl _ Try.func9 (by kernel_rfl) (by kernel_rfl) w1) (rGood_R a la bda false ga w1) (fun e w' ⟨he, hb⟩ => ⟨_, he, hK _ _ hb (hC.trans (hb.mono hC.size)) rfl⟩)
    refine .cons (.plain rfl fun x w1 hC hd K hK => ?_) ?_
    · have d1 : x 1 = (.bool false : Value) := hd.get 1 rfl
      have d3 : x 3 = (.bool false : Value) := hd.get 3 rfl
      dsimp only at hK ⊢
      rw [d1, d3] at hK ⊢
      exact wp_value (v := (.bool true : Value)) (exec_eqb _ (.tmp 24) (.tmp 26) rfl false rfl rfl w1) (hK _ _ (Below.refl _ _) hC rfl)
    refine .cons (.plain rfl fun x w1 hC hd K hK => ?_) ?_
    · have d4 : x 4 = (.bool true : Value) := hd.get 4 rfl
      dsimp only at hK ⊢
      rw [d4] at hK ⊢
      exact wp_value (v := (.bool true : Value)) (by rfl) (hK _ _ (Below.refl _ _) hC rfl)
    refine .cons (.yes 5 true 28 rfl rfl (fun x w1 hC hd => by have d : x 5 = .bool true := hd.get 5 rfl; show some (x 5) = _; rw [d]) fun x w1 hC hd K hK => ?_) ?_
    · exact wp_load_row 22 (.tmp 4) rfl (w.heap.size + 1) rfl 22 (ivs b) (0, 0) _ ((hC.block _ (Array.getElem?_eq_some_iff.1 hxb).1).trans hxb) Try.underlying22 rfl (arr_info lb) (hK _ _ (Below.refl _ _) hC rfl)
    refine .cons (.yes 5 true 28 rfl rfl (fun x w1 hC hd => by have d : x 5 = .bool true := hd.get 5 rfl; show some (x 5) = _; rw [d]) fun x w1 hC hd K hK => ?_) ?_
    · have d6 : x 6 = (.agg (ivs b) : Value) := hd.get 6 rfl
      dsimp only at hK ⊢
      rw [d6] at hK ⊢
      exact wp_called (f := 12) (args := #[.agg (ivs b)]) (exec_call 12 _ rfl _ rfl rfl #[.agg (ivs b)] rfl _ Try.func12 (by kernel_rfl) (by kernel_rfl) w1) (vGood_R b lb bdb rb gb w1) (fun e w' ⟨he, hb⟩ => ⟨_, he, hK _ _ hb (hC.trans (hb.mono hC.size)) rfl⟩)
    refine .cons (.yes 5 true 28 rfl rfl (fun x w1 hC hd => by have d : x 5 = .bool true := hd.get 5 rfl; show some (x 5) = _; rw [d]) fun x w1 hC hd K hK => ?_) ?_
    · exact wp_load_row 22 (.tmp 4) rfl (w.heap.size + 1) rfl 22 (ivs b) (0, 0) _ ((hC.block _ (Array.getElem?_eq_some_iff.1 hxb).1).trans hxb) Try.underlying22 rfl (arr_info lb) (hK _ _ (Below.refl _ _) hC rfl)
    refine .cons (.yes 5 true 28 rfl rfl (fun x w1 hC hd => by have d : x 5 = .bool true := hd.get 5 rfl; show some (x 5) = _; rw [d]) fun x w1 hC hd K hK => ?_) ?_
    · have d8 : x 8 = (.agg (ivs b) : Value) := hd.get 8 rfl
      dsimp only at hK ⊢
      rw [d8] at hK ⊢
      exact wp_called (f := 9) (args := #[.agg (ivs b)]) (exec_call 9 _ rfl _ rfl rfl #[.agg (ivs b)] rfl _ Try.func9 (by kernel_rfl) (by kernel_rfl) w1) (rGood_R b lb bdb rb gb w1) (fun e w' ⟨he, hb⟩ => ⟨_, he, hK _ _ hb (hC.trans (hb.mono hC.size)) rfl⟩)
    refine .cons (.yes 5 true 28 rfl rfl (fun x w1 hC hd => by have d : x 5 = .bool true := hd.get 5 rfl; show some (x 5) = _; rw [d]) fun x w1 hC hd K hK => ?_) ?_
    · have d7 : x 7 = (.bool rb : Value) := hd.get 7 rfl
      have d9 : x 9 = (.bool rb : Value) := hd.get 9 rfl
      dsimp only at hK ⊢
      rw [d7, d9] at hK ⊢
      exact wp_value (v := (.bool true : Value)) (exec_eqb _ (.tmp 30) (.tmp 32) rfl rb rfl rfl w1) (hK _ _ (Below.refl _ _) hC rfl)
    refine .cons (.plain rfl fun x w1 hC hd K hK => ?_) ?_
    · have d5 : x 5 = (.bool true : Value) := hd.get 5 rfl
      have d10 : x 10 = (.bool true : Value) := hd.get 10 rfl
      dsimp only at hK ⊢
      rw [d5, d10] at hK ⊢
      exact wp_value (v := (.bool true : Value)) (by rfl) (hK _ _ (Below.refl _ _) hC rfl)
    refine .cons (.plain rfl fun x w1 hC hd K hK => ?_) ?_
    · have d11 : x 11 = (.bool true : Value) := hd.get 11 rfl
      dsimp only at hK ⊢
      rw [d11] at hK ⊢
      exact wp_value (v := (.bool true : Value)) (by rfl) (hK _ _ (Below.refl _ _) hC rfl)
    exact .nil
  case xfin =>
    intro x w9 hC hΦ
    have d : x 12 = .bool true := hΦ 12 (by decide)
    dsimp only
    rw [d]
    clear hΦ
    go_wp2
    go_ret
    exact ⟨rfl, hb.trans (hC.mono hb.size)⟩

set_option maxRecDepth 100000 in
set_option maxHeartbeats 1000000 in
theorem orders_b (a b c : List Int) (oa : a.length = 16 ∧ ∀ i : Nat, -9223372036854775808 ≤ a[i]?.getD 0 ∧ a[i]?.getD 0 ≤ 9223372036854775807) (ob : b.length = 16 ∧ ∀ i : Nat, -9223372036854775808 ≤ b[i]?.getD 0 ∧ b[i]?.getD 0 ≤ 9223372036854775807) (oc : c.length = 16 ∧ ∀ i : Nat, -9223372036854775808 ≤ c[i]?.getD 0 ∧ c[i]?.getD 0 ≤ 9223372036854775807) (ga : good a = true) (gb : good b = false) (w : World) :
    Calls Try.prog 4 #[.agg (ivs a), .agg (ivs b), .agg (ivs c)] w fun e w' => e = .returned (.bool true) ∧ Below w.heap.size w w' := by
  have la := oa.1
  have lb := ob.1
  have lc := oc.1
  have bda := oa.2
  have bdb := ob.2
  have bdc := oc.2
  obtain ⟨W, hW⟩ : ∃ W, ((w.alloc (.cells (ivs a) 22)).alloc (.cells (ivs b) 22)).alloc (.cells (ivs c) 22) = W := ⟨_, rfl⟩
  have hxa : W.heap[w.heap.size]? = some (.cells (ivs a) 22 (0, 0)) := by
    rw [← hW]; exact (((Below.refl _ ((w.alloc (.cells (ivs a) 22)).alloc (.cells (ivs b) 22))).alloc (Nat.le_refl _) (.cells (ivs c) 22)).block _ (by simp; omega)).trans (heap_alloc2_old w _ _)
  have hxb : W.heap[w.heap.size + 1]? = some (.cells (ivs b) 22 (0, 0)) := by
    rw [← hW]; exact (((Below.refl _ ((w.alloc (.cells (ivs a) 22)).alloc (.cells (ivs b) 22))).alloc (Nat.le_refl _) (.cells (ivs c) 22)).block _ (by simp)).trans (heap_alloc2_new w _ _)
  have hxc : W.heap[w.heap.size + 1 + 1]? = some (.cells (ivs c) 22 (0, 0)) := by
    rw [← hW]; have := heap_alloc_new ((w.alloc (.cells (ivs a) 22)).alloc (.cells (ivs b) 22)) (Obj.cells (ivs c) 22); simpa using this
  have hb : Below w.heap.size w W := by
    rw [← hW]; exact (((Below.refl _ w).alloc (Nat.le_refl _) _).alloc (by simp) _).alloc (by simp; omega) _
  obtain ⟨H⟩ : Nonempty (Hid (a.length = 16 ∧ b.length = 16 ∧ c.length = 16 ∧ (∀ i : Nat, -9223372036854775808 ≤ a[i]?.getD 0 ∧ a[i]?.getD 0 ≤ 9223372036854775807) ∧ (∀ i : Nat, -9223372036854775808 ≤ b[i]?.getD 0 ∧ b[i]?.getD 0 ≤ 9223372036854775807) ∧ (∀ i : Nat, -9223372036854775808 ≤ c[i]?.getD 0 ∧ c[i]?.getD 0 ≤ 9223372036854775807))) := ⟨Lib.hid ⟨la, lb, lc, bda, bdb, bdc⟩⟩
  clear la lb lc bda bdb bdc oa ob oc
  go_enter Try.func4, Try.ntmps4
  go_wp2_with (fail)
  clear hW

  refine (awake_any _).mono ?_
  rintro e w1 ⟨rfl, h1⟩
  have hxa := (h1.block _ (Array.getElem?_eq_some_iff.1 hxa).1).trans hxa
  have hxb := (h1.block _ (Array.getElem?_eq_some_iff.1 hxb).1).trans hxb
  have hxc := (h1.block _ (Array.getElem?_eq_some_iff.1 hxc).1).trans hxc
  have hb := hb.trans (h1.mono hb.size)
  clear h1
  go_wp2_with (first | (refine wpList_load_row rfl 22 (.tmp 3) rfl w.heap.size rfl 22 (ivs a) (0, 0) _ hxa Try.underlying22 rfl (arr_info H.out.1) ?_) | (refine wpList_load_rowg (by rfl) 22 (.tmp 4) rfl (w.heap.size + 1) rfl 22 (ivs b) (0, 0) _ hxb Try.underlying22 rfl (arr_info H.out.2.1) ?_) | (refine wpList_load_rowg (by rfl) 22 (.tmp 5) rfl (w.heap.size + 1 + 1) rfl 22 (ivs c) (0, 0) _ hxc Try.underlying22 rfl (arr_info H.out.2.2.1) ?_))
  refine (rGood_R a H.out.1 H.out.2.2.2.1 true ga _).mono ?_
  rintro e v0 ⟨rfl, hv0⟩
  have hxa := (hv0.block _ (Array.getElem?_eq_some_iff.1 hxa).1).trans hxa
  have hxb := (hv0.block _ (Array.getElem?_eq_some_iff.1 hxb).1).trans hxb
  have hxc := (hv0.block _ (Array.getElem?_eq_some_iff.1 hxc).1).trans hxc
  have hb := hb.trans (hv0.mono hb.size)
  clear hv0
  go_wp2_with (first | (refine wpList_load_row rfl 22 (.tmp 3) rfl w.heap.size rfl 22 (ivs a) (0, 0) _ hxa Try.underlying22 rfl (arr_info H.out.1) ?_) | (refine wpList_load_rowg (by rfl) 22 (.tmp 4) rfl (w.heap.size + 1) rfl 22 (ivs b) (0, 0) _ hxb Try.underlying22 rfl (arr_info H.out.2.1) ?_) | (refine wpList_load_rowg (by rfl) 22 (.tmp 5) rfl (w.heap.size + 1 + 1) rfl 22 (ivs c) (0, 0) _ hxc Try.underlying22 rfl (arr_info H.out.2.2.1) ?_))
  refine (rGood_R b H.out.2.1 H.out.2.2.2.2.1 false gb _).mono ?_
  rintro e v1 ⟨rfl, hv1⟩
  have hxa := (hv1.block _ (Array.getElem?_eq_some_iff.1 hxa).1).trans hxa
  have hxb := (hv1.block _ (Array.getElem?_eq_some_iff.1 hxb).1).trans hxb
  have hxc := (hv1.block _ (Array.getElem?_eq_some_iff.1 hxc).1).trans hxc
  have hb := hb.trans (hv1.mono hb.size)
  clear hv1

  go_wp2_with (fail)
  generalize v1 = W at *
  have la := H.out.1
  have lb := H.out.2.1
  have bda := H.out.2.2.2.1
  have bdb := H.out.2.2.2.2.1
  refine wp_region_rel rfl (fun W' => Below W.heap.size W W') (fun W1 W2 => Below W1.heap.size W1 W2)
    (fun i => ([fun v _ => v = (.agg (ivs a) : Value), fun v _ => v = (.bool true : Value), fun v _ => v = (.agg (ivs a) : Value), fun v _ => v = (.bool true : Value), fun v _ => v = (.bool true : Value), fun v _ => v = (.bool true : Value), fun v _ => v = (.agg (ivs b) : Value), fun v _ => v = (.bool false : Value), fun v _ => v = (.agg (ivs b) : Value), fun v _ => v = (.bool false : Value), fun v _ => v = (.bool true : Value), fun v _ => v = (.bool true : Value), fun v _ => v = (.bool true : Value)][i]?).getD (fun _ _ => True))
    (fun x => { tmps := #[.agg (ivs a), .agg (ivs b), .agg (ivs c), .pointer (some ⟨w.heap.size, 0, none⟩), .pointer (some ⟨w.heap.size + 1, 0, none⟩), .pointer (some ⟨w.heap.size + 1 + 1, 0, none⟩), x 12, undef, .bool true, .bool false, .agg (ivs a), .bool true, .bool false, .bool false, .agg (ivs b), .bool false, .bool true, .bool true, .bool true, undef, undef, undef, .bool true, x 0, x 1, x 2, x 3, x 4, x 5, x 6, x 7, x 8, x 9, x 10, x 11, undef, undef, undef, undef, undef, undef, undef, undef, undef, undef, undef, undef, undef, undef, undef, undef, undef, undef, undef, undef, undef, undef, undef, undef, undef, undef, undef, undef, undef, undef, undef, undef, undef, undef, undef, undef, undef, undef, undef, undef, undef, undef, undef, undef, undef, undef, undef, undef, undef, undef, undef, undef, undef, undef, undef, undef, undef, undef, undef, undef, undef, undef, undef, undef, undef, undef, undef, undef], defers := [] }) (fun x => by simp only [fillL, Act.put, List.setIfInBounds_toArray, List.set_cons_zero, List.set_cons_succ, Nat.reduceAdd]) (by kernel_rfl) (by kernel_rfl) ?xst ((Below.refl _ _).drew) ?xop ?xfin
  case xst =>
    intro i v w1 w2 h hb
    rcases i with _ | _ | _ | _ | _ | _ | _ | _ | _ | _ | _ | _ | _ | i
    · exact h
    · exact h
    · exact h
    · exact h
    · exact h
    · exact h
    · exact h
    · exact h
    · exact h
    · exact h
    · exact h
    · exact h
    · exact h
    · exact h
  case xop =>
    refine .cons (.plain rfl fun x w1 hC hd K hK => ?_) ?_
    · exact wp_load_row 22 (.tmp 3) rfl w.heap.size rfl 22 (ivs a) (0, 0) _ ((hC.block _ (Array.getElem?_eq_some_iff.1 hxa).1).trans hxa) Try.underlying22 rfl (arr_info la) (hK _ _ (Below.refl _ _) hC rfl)
    refine .cons (.plain rfl fun x w1 hC hd K hK => ?_) ?_
    · have d0 : x 0 = (.agg (ivs a) : Value) := hd.get 0 rfl
      dsimp only at hK ⊢
      rw [d0] at hK ⊢
      exact wp_called (f := 12) (args := #[.agg (ivs a)]) (exec_call 12 _ rfl _ rfl rfl #[.agg (ivs a)] rfl _ Try.func12 (by kernel_rfl) (by kernel_rfl) w1) (vGood_R a la bda true ga w1) (fun e w' ⟨he, hb⟩ => ⟨_, he, hK _ _ hb (hC.trans (hb.mono hC.size)) rfl⟩)
    refine .cons (.plain rfl fun x w1 hC hd K hK => ?_) ?_
    · exact wp_load_row 22 (.tmp 3) rfl w.heap.size rfl 22 (ivs a) (0, 0) _ ((hC.block _ (Array.getElem?_eq_some_iff.1 hxa).1).trans hxa) Try.underlying22 rfl (arr_info la) (hK _ _ (Below.refl _ _) hC rfl)
    refine .cons (.plain rfl fun x w1 hC hd K hK => ?_) ?_
    · have d2 : x 2 = (.agg (ivs a) : Value) := hd.get 2 rfl
      dsimp only at hK ⊢
      rw [d2] at hK ⊢
      exact wp_called (f := 9) (args := #[.agg (ivs a)]) (exec_call 9 _ rfl _ rfl rfl #[.agg (ivs a)] rfl _ Try.func9 (by kernel_rfl) (by kernel_rfl) w1) (rGood_R a la bda true ga w1) (fun e w' ⟨he, hb⟩ => ⟨_, he, hK _ _ hb (hC.trans (hb.mono hC.size)) rfl⟩)
    refine .cons (.plain rfl fun x w1 hC hd K hK => ?_) ?_
    · have d1 : x 1 = (.bool true : Value) := hd.get 1 rfl
      have d3 : x 3 = (.bool true : Value) := hd.get 3 rfl
      dsimp only at hK ⊢
      rw [d1, d3] at hK ⊢
      exact wp_value (v := (.bool true : Value)) (exec_eqb _ (.tmp 24) (.tmp 26) rfl true rfl rfl w1) (hK _ _ (Below.refl _ _) hC rfl)
    refine .cons (.plain rfl fun x w1 hC hd K hK => ?_) ?_
    · have d4 : x 4 = (.bool true : Value) := hd.get 4 rfl
      dsimp only at hK ⊢
      rw [d4] at hK ⊢
      exact wp_value (v := (.bool true : Value)) (by rfl) (hK _ _ (Below.refl _ _) hC rfl)
    refine .cons (.yes 5 true 28 rfl rfl (fun x w1 hC hd => by have d : x 5 = .bool true := hd.get 5 rfl; show some (x 5) = _; rw [d]) fun x w1 hC hd K hK => ?_) ?_
    · exact wp_load_row 22 (.tmp 4) rfl (w.heap.size + 1) rfl 22 (ivs b) (0, 0) _ ((hC.block _ (Array.getElem?_eq_some_iff.1 hxb).1).trans hxb) Try.underlying22 rfl (arr_info lb) (hK _ _ (Below.refl _ _) hC rfl)
    refine .cons (.yes 5 true 28 rfl rfl (fun x w1 hC hd => by have d : x 5 = .bool true := hd.get 5 rfl; show some (x 5) = _; rw [d]) fun x w1 hC hd K hK => ?_) ?_
    · have d6 : x 6 = (.agg (ivs b) : Value) := hd.get 6 rfl
      dsimp only at hK ⊢
      rw [d6] at hK ⊢
      exact wp_called (f := 12) (args := #[.agg (ivs b)]) (exec_call 12 _ rfl _ rfl rfl #[.agg (ivs b)] rfl _ Try.func12 (by kernel_rfl) (by kernel_rfl) w1) (vGood_R b lb bdb false gb w1) (fun e w' ⟨he, hb⟩ => ⟨_, he, hK _ _ hb (hC.trans (hb.mono hC.size)) rfl⟩)
    refine .cons (.yes 5 true 28 rfl rfl (fun x w1 hC hd => by have d : x 5 = .bool true := hd.get 5 rfl; show some (x 5) = _; rw [d]) fun x w1 hC hd K hK => ?_) ?_
    · exact wp_load_row 22 (.tmp 4) rfl (w.heap.size + 1) rfl 22 (ivs b) (0, 0) _ ((hC.block _ (Array.getElem?_eq_some_iff.1 hxb).1).trans hxb) Try.underlying22 rfl (arr_info lb) (hK _ _ (Below.refl _ _) hC rfl)
    refine .cons (.yes 5 true 28 rfl rfl (fun x w1 hC hd => by have d : x 5 = .bool true := hd.get 5 rfl; show some (x 5) = _; rw [d]) fun x w1 hC hd K hK => ?_) ?_
    · have d8 : x 8 = (.agg (ivs b) : Value) := hd.get 8 rfl
      dsimp only at hK ⊢
      rw [d8] at hK ⊢
      exact wp_called (f := 9) (args := #[.agg (ivs b)]) (exec_call 9 _ rfl _ rfl rfl #[.agg (ivs b)] rfl _ Try.func9 (by kernel_rfl) (by kernel_rfl) w1) (rGood_R b lb bdb false gb w1) (fun e w' ⟨he, hb⟩ => ⟨_, he, hK _ _ hb (hC.trans (hb.mono hC.size)) rfl⟩)
    refine .cons (.yes 5 true 28 rfl rfl (fun x w1 hC hd => by have d : x 5 = .bool true := hd.get 5 rfl; show some (x 5) = _; rw [d]) fun x w1 hC hd K hK => ?_) ?_
    · have d7 : x 7 = (.bool false : Value) := hd.get 7 rfl
      have d9 : x 9 = (.bool false : Value) := hd.get 9 rfl
      dsimp only at hK ⊢
      rw [d7, d9] at hK ⊢
      exact wp_value (v := (.bool true : Value)) (exec_eqb _ (.tmp 30) (.tmp 32) rfl false rfl rfl w1) (hK _ _ (Below.refl _ _) hC rfl)
    refine .cons (.plain rfl fun x w1 hC hd K hK => ?_) ?_
    · have d5 : x 5 = (.bool true : Value) := hd.get 5 rfl
      have d10 : x 10 = (.bool true : Value) := hd.get 10 rfl
      dsimp only at hK ⊢
      rw [d5, d10] at hK ⊢
      exact wp_value (v := (.bool true : Value)) (by rfl) (hK _ _ (Below.refl _ _) hC rfl)
    refine .cons (.plain rfl fun x w1 hC hd K hK => ?_) ?_
    · have d11 : x 11 = (.bool true : Value) := hd.get 11 rfl
      dsimp only at hK ⊢
      rw [d11] at hK ⊢
      exact wp_value (v := (.bool true : Value)) (by rfl) (hK _ _ (Below.refl _ _) hC rfl)
    exact .nil
  case xfin =>
    intro x w9 hC hΦ
    have d : x 12 = .bool true := hΦ 12 (by decide)
    dsimp only
    rw [d]
    clear hΦ
    go_wp2
    go_ret
    exact ⟨rfl, hb.trans (hC.mono hb.size)⟩

set_option maxRecDepth 100000 in
set_option maxHeartbeats 1000000 in
theorem orders_c (a b c : List Int) (oa : a.length = 16 ∧ ∀ i : Nat, -9223372036854775808 ≤ a[i]?.getD 0 ∧ a[i]?.getD 0 ≤ 9223372036854775807) (ob : b.length = 16 ∧ ∀ i : Nat, -9223372036854775808 ≤ b[i]?.getD 0 ∧ b[i]?.getD 0 ≤ 9223372036854775807) (oc : c.length = 16 ∧ ∀ i : Nat, -9223372036854775808 ≤ c[i]?.getD 0 ∧ c[i]?.getD 0 ≤ 9223372036854775807) (ga : good a = true) (gb : good b = true) (gc : good c = false) (w : World) :
    Calls Try.prog 4 #[.agg (ivs a), .agg (ivs b), .agg (ivs c)] w fun e w' => e = .returned (.bool true) ∧ Below w.heap.size w w' := by
  have la := oa.1
  have lb := ob.1
  have lc := oc.1
  have bda := oa.2
  have bdb := ob.2
  have bdc := oc.2
  obtain ⟨W, hW⟩ : ∃ W, ((w.alloc (.cells (ivs a) 22)).alloc (.cells (ivs b) 22)).alloc (.cells (ivs c) 22) = W := ⟨_, rfl⟩
  have hxa : W.heap[w.heap.size]? = some (.cells (ivs a) 22 (0, 0)) := by
    rw [← hW]; exact (((Below.refl _ ((w.alloc (.cells (ivs a) 22)).alloc (.cells (ivs b) 22))).alloc (Nat.le_refl _) (.cells (ivs c) 22)).block _ (by simp; omega)).trans (heap_alloc2_old w _ _)
  have hxb : W.heap[w.heap.size + 1]? = some (.cells (ivs b) 22 (0, 0)) := by
    rw [← hW]; exact (((Below.refl _ ((w.alloc (.cells (ivs a) 22)).alloc (.cells (ivs b) 22))).alloc (Nat.le_refl _) (.cells (ivs c) 22)).block _ (by simp)).trans (heap_alloc2_new w _ _)
  have hxc : W.heap[w.heap.size + 1 + 1]? = some (.cells (ivs c) 22 (0, 0)) := by
    rw [← hW]; have := heap_alloc_new ((w.alloc (.cells (ivs a) 22)).alloc (.cells (ivs b) 22)) (Obj.cells (ivs c) 22); simpa using this
  have hb : Below w.heap.size w W := by
    rw [← hW]; exact (((Below.refl _ w).alloc (Nat.le_refl _) _).alloc (by simp) _).alloc (by simp; omega) _
  obtain ⟨H⟩ : Nonempty (Hid (a.length = 16 ∧ b.length = 16 ∧ c.length = 16 ∧ (∀ i : Nat, -9223372036854775808 ≤ a[i]?.getD 0 ∧ a[i]?.getD 0 ≤ 9223372036854775807) ∧ (∀ i : Nat, -9223372036854775808 ≤ b[i]?.getD 0 ∧ b[i]?.getD 0 ≤ 9223372036854775807) ∧ (∀ i : Nat, -9223372036854775808 ≤ c[i]?.getD 0 ∧ c[i]?.getD 0 ≤ 9223372036854775807))) := ⟨Lib.hid ⟨la, lb, lc, bda, bdb, bdc⟩⟩
  clear la lb lc bda bdb bdc oa ob oc
  go_enter Try.func4, Try.ntmps4
  go_wp2_with (fail)
  clear hW

  refine (awake_any _).mono ?_
  rintro e w1 ⟨rfl, h1⟩
  have hxa := (h1.block _ (Array.getElem?_eq_some_iff.1 hxa).1).trans hxa
  have hxb := (h1.block _ (Array.getElem?_eq_some_iff.1 hxb).1).trans hxb
  have hxc := (h1.block _ (Array.getElem?_eq_some_iff.1 hxc).1).trans hxc
  have hb := hb.trans (h1.mono hb.size)
  clear h1
  go_wp2_with (first | (refine wpList_load_row rfl 22 (.tmp 3) rfl w.heap.size rfl 22 (ivs a) (0, 0) _ hxa Try.underlying22 rfl (arr_info H.out.1) ?_) | (refine wpList_load_rowg (by rfl) 22 (.tmp 4) rfl (w.heap.size + 1) rfl 22 (ivs b) (0, 0) _ hxb Try.underlying22 rfl (arr_info H.out.2.1) ?_) | (refine wpList_load_rowg (by rfl) 22 (.tmp 5) rfl (w.heap.size + 1 + 1) rfl 22 (ivs c) (0, 0) _ hxc Try.underlying22 rfl (arr_info H.out.2.2.1) ?_))
  refine (rGood_R a H.out.1 H.out.2.2.2.1 true ga _).mono ?_
  rintro e v0 ⟨rfl, hv0⟩
  have hxa := (hv0.block _ (Array.getElem?_eq_some_iff.1 hxa).1).trans hxa
  have hxb := (hv0.block _ (Array.getElem?_eq_some_iff.1 hxb).1).trans hxb
  have hxc := (hv0.block _ (Array.getElem?_eq_some_iff.1 hxc).1).trans hxc
  have hb := hb.trans (hv0.mono hb.size)
  clear hv0
  go_wp2_with (first | (refine wpList_load_row rfl 22 (.tmp 3) rfl w.heap.size rfl 22 (ivs a) (0, 0) _ hxa Try.underlying22 rfl (arr_info H.out.1) ?_) | (refine wpList_load_rowg (by rfl) 22 (.tmp 4) rfl (w.heap.size + 1) rfl 22 (ivs b) (0, 0) _ hxb Try.underlying22 rfl (arr_info H.out.2.1) ?_) | (refine wpList_load_rowg (by rfl) 22 (.tmp 5) rfl (w.heap.size + 1 + 1) rfl 22 (ivs c) (0, 0) _ hxc Try.underlying22 rfl (arr_info H.out.2.2.1) ?_))
  refine (rGood_R b H.out.2.1 H.out.2.2.2.2.1 true gb _).mono ?_
  rintro e v1 ⟨rfl, hv1⟩
  have hxa := (hv1.block _ (Array.getElem?_eq_some_iff.1 hxa).1).trans hxa
  have hxb := (hv1.block _ (Array.getElem?_eq_some_iff.1 hxb).1).trans hxb
  have hxc := (hv1.block _ (Array.getElem?_eq_some_iff.1 hxc).1).trans hxc
  have hb := hb.trans (hv1.mono hb.size)
  clear hv1
  go_wp2_with (first | (refine wpList_load_row rfl 22 (.tmp 3) rfl w.heap.size rfl 22 (ivs a) (0, 0) _ hxa Try.underlying22 rfl (arr_info H.out.1) ?_) | (refine wpList_load_rowg (by rfl) 22 (.tmp 4) rfl (w.heap.size + 1) rfl 22 (ivs b) (0, 0) _ hxb Try.underlying22 rfl (arr_info H.out.2.1) ?_) | (refine wpList_load_rowg (by rfl) 22 (.tmp 5) rfl (w.heap.size + 1 + 1) rfl 22 (ivs c) (0, 0) _ hxc Try.underlying22 rfl (arr_info H.out.2.2.1) ?_))
  refine (rGood_R c H.out.2.2.1 H.out.2.2.2.2.2 false gc _).mono ?_
  rintro e v2 ⟨rfl, hv2⟩
  have hxa := (hv2.block _ (Array.getElem?_eq_some_iff.1 hxa).1).trans hxa
  have hxb := (hv2.block _ (Array.getElem?_eq_some_iff.1 hxb).1).trans hxb
  have hxc := (hv2.block _ (Array.getElem?_eq_some_iff.1 hxc).1).trans hxc
  have hb := hb.trans (hv2.mono hb.size)
  clear hv2

  go_wp2_with (fail)
  generalize v2 = W at *
  have la := H.out.1
  have lb := H.out.2.1
  have bda := H.out.2.2.2.1
  have bdb := H.out.2.2.2.2.1
  refine wp_region_rel rfl (fun W' => Below W.heap.size W W') (fun W1 W2 => Below W1.heap.size W1 W2)
    (fun i => ([fun v _ => v = (.agg (ivs a) : Value), fun v _ => v = (.bool true : Value), fun v _ => v = (.agg (ivs a) : Value), fun v _ => v = (.bool true : Value), fun v _ => v = (.bool true : Value), fun v _ => v = (.bool true : Value), fun v _ => v = (.agg (ivs b) : Value), fun v _ => v = (.bool true : Value), fun v _ => v = (.agg (ivs b) : Value), fun v _ => v = (.bool true : Value), fun v _ => v = (.bool true : Value), fun v _ => v = (.bool true : Value), fun v _ => v = (.bool true : Value)][i]?).getD (fun _ _ => True))
    (fun x => { tmps := #[.agg (ivs a), .agg (ivs b), .agg (ivs c), .pointer (some ⟨w.heap.size, 0, none⟩), .pointer (some ⟨w.heap.size + 1, 0, none⟩), .pointer (some ⟨w.heap.size + 1 + 1, 0, none⟩), x 12, undef, .bool true, .bool false, .agg (ivs a), .bool true, .bool false, .bool false, .agg (ivs b), .bool true, .bool false, .bool false, .bool false, .agg (ivs c), .bool false, .bool true, .bool true, x 0, x 1, x 2, x 3, x 4, x 5, x 6, x 7, x 8, x 9, x 10, x 11, undef, undef, undef, undef, undef, undef, undef, undef, undef, undef, undef, undef, undef, undef, undef, undef, undef, undef, undef, undef, undef, undef, undef, undef, undef, undef, undef, undef, undef, undef, undef, undef, undef, undef, undef, undef, undef, undef, undef, undef, undef, undef, undef, undef, undef, undef, undef, undef, undef, undef, undef, undef, undef, undef, undef, undef, undef, undef, undef, undef, undef, undef, undef, undef, undef, undef, undef, undef], defers := [] }) (fun x => by simp only [fillL, Act.put, List.setIfInBounds_toArray, List.set_cons_zero, List.set_cons_succ, Nat.reduceAdd]) (by kernel_rfl) (by kernel_rfl) ?xst ((Below.refl _ _).drew) ?xop ?xfin
  case xst =>
    intro i v w1 w2 h hb
    rcases i with _ | _ | _ | _ | _ | _ | _ | _ | _ | _ | _ | _ | _ | i
    · exact h
    · exact h
    · exact h
    · exact h
    · exact h
    · exact h
    · exact h
    · exact h
    · exact h
    · exact h
    · exact h
    · exact h
    · exact h
    · exact h
  case xop =>
    refine .cons (.plain rfl fun x w1 hC hd K hK => ?_) ?_
    · exact wp_load_row 22 (.tmp 3) rfl w.heap.size rfl 22 (ivs a) (0, 0) _ ((hC.block _ (Array.getElem?_eq_some_iff.1 hxa).1).trans hxa) Try.underlying22 rfl (arr_info la) (hK _ _ (Below.refl _ _) hC rfl)
    refine .cons (.plain rfl fun x w1 hC hd K hK => ?_) ?_
    · have d0 : x 0 = (.agg (ivs a) : Value) := hd.get 0 rfl
      dsimp only at hK ⊢
      rw [d0] at hK ⊢
      exact wp_called (f := 12) (args := #[.agg (ivs a)]) (exec_call 12 _ rfl _ rfl rfl #[.agg (ivs a)] rfl _ Try.func12 (by kernel_rfl) (by kernel_rfl) w1) (vGood_R a la bda true ga w1) (fun e w' ⟨he, hb⟩ => ⟨_, he, hK _ _ hb (hC.trans (hb.mono hC.size)) rfl⟩)
    refine .cons (.plain rfl fun x w1 hC hd K hK => ?_) ?_
    · exact wp_load_row 22 (.tmp 3) rfl w.heap.size rfl 22 (ivs a) (0, 0) _ ((hC.block _ (Array.getElem?_eq_some_iff.1 hxa).1).trans hxa) Try.underlying22 rfl (arr_info la) (hK _ _ (Below.refl _ _) hC rfl)
    refine .cons (.plain rfl fun x w1 hC hd K hK => ?_) ?_
    · have d2 : x 2 = (.agg (ivs a) : Value) := hd.get 2 rfl
      dsimp only at hK ⊢
      rw [d2] at hK ⊢
      exact wp_called (f := 9) (args := #[.agg (ivs a)]) (exec_call 9 _ rfl _ rfl rfl #[.agg (ivs a)] rfl _ Try.func9 (by kernel_rfl) (by kernel_rfl) w1) (rGood_R a la bda true ga w1) (fun e w' ⟨he, hb⟩ => ⟨_, he, hK _ _ hb (hC.trans (hb.mono hC.size)) rfl⟩)
    refine .cons (.plain rfl fun x w1 hC hd K hK => ?_) ?_
    · have d1 : x 1 = (.bool true : Value) := hd.get 1 rfl
      have d3 : x 3 = (.bool true : Value) := hd.get 3 rfl
      dsimp only at hK ⊢
      rw [d1, d3] at hK ⊢
      exact wp_value (v := (.bool true : Value)) (exec_eqb _ (.tmp 24) (.tmp 26) rfl true rfl rfl w1) (hK _ _ (Below.refl _ _) hC rfl)
    refine .cons (.plain rfl fun x w1 hC hd K hK => ?_) ?_
    · have d4 : x 4 = (.bool true : Value) := hd.get 4 rfl
      dsimp only at hK ⊢
      rw [d4] at hK ⊢
      exact wp_value (v := (.bool true : Value)) (by rfl) (hK _ _ (Below.refl _ _) hC rfl)
    refine .cons (.yes 5 true 28 rfl rfl (fun x w1 hC hd => by have d : x 5 = .bool true := hd.get 5 rfl; show some (x 5) = _; rw [d]) fun x w1 hC hd K hK => ?_) ?_
    · exact wp_load_row 22 (.tmp 4) rfl (w.heap.size + 1) rfl 22 (ivs b) (0, 0) _ ((hC.block _ (Array.getElem?_eq_some_iff.1 hxb).1).trans hxb) Try.underlying22 rfl (arr_info lb) (hK _ _ (Below.refl _ _) hC rfl)
    refine .cons (.yes 5 true 28 rfl rfl (fun x w1 hC hd => by have d : x 5 = .bool true := hd.get 5 rfl; show some (x 5) = _; rw [d]) fun x w1 hC hd K hK => ?_) ?_
    · have d6 : x 6 = (.agg (ivs b) : Value) := hd.get 6 rfl
      dsimp only at hK ⊢
      rw [d6] at hK ⊢
      exact wp_called (f := 12) (args := #[.agg (ivs b)]) (exec_call 12 _ rfl _ rfl rfl #[.agg (ivs b)] rfl _ Try.func12 (by kernel_rfl) (by kernel_rfl) w1) (vGood_R b lb bdb true gb w1) (fun e w' ⟨he, hb⟩ => ⟨_, he, hK _ _ hb (hC.trans (hb.mono hC.size)) rfl⟩)
    refine .cons (.yes 5 true 28 rfl rfl (fun x w1 hC hd => by have d : x 5 = .bool true := hd.get 5 rfl; show some (x 5) = _; rw [d]) fun x w1 hC hd K hK => ?_) ?_
    · exact wp_load_row 22 (.tmp 4) rfl (w.heap.size + 1) rfl 22 (ivs b) (0, 0) _ ((hC.block _ (Array.getElem?_eq_some_iff.1 hxb).1).trans hxb) Try.underlying22 rfl (arr_info lb) (hK _ _ (Below.refl _ _) hC rfl)
    refine .cons (.yes 5 true 28 rfl rfl (fun x w1 hC hd => by have d : x 5 = .bool true := hd.get 5 rfl; show some (x 5) = _; rw [d]) fun x w1 hC hd K hK => ?_) ?_
    · have d8 : x 8 = (.agg (ivs b) : Value) := hd.get 8 rfl
      dsimp only at hK ⊢
      rw [d8] at hK ⊢
      exact wp_called (f := 9) (args := #[.agg (ivs b)]) (exec_call 9 _ rfl _ rfl rfl #[.agg (ivs b)] rfl _ Try.func9 (by kernel_rfl) (by kernel_rfl) w1) (rGood_R b lb bdb true gb w1) (fun e w' ⟨he, hb⟩ => ⟨_, he, hK _ _ hb (hC.trans (hb.mono hC.size)) rfl⟩)
    refine .cons (.yes 5 true 28 rfl rfl (fun x w1 hC hd => by have d : x 5 = .bool true := hd.get 5 rfl; show some (x 5) = _; rw [d]) fun x w1 hC hd K hK => ?_) ?_
    · have d7 : x 7 = (.bool true : Value) := hd.get 7 rfl
      have d9 : x 9 = (.bool true : Value) := hd.get 9 rfl
      dsimp only at hK ⊢
      rw [d7, d9] at hK ⊢
      exact wp_value (v := (.bool true : Value)) (exec_eqb _ (.tmp 30) (.tmp 32) rfl true rfl rfl w1) (hK _ _ (Below.refl _ _) hC rfl)
    refine .cons (.plain rfl fun x w1 hC hd K hK => ?_) ?_
    · have d5 : x 5 = (.bool true : Value) := hd.get 5 rfl
      have d10 : x 10 = (.bool true : Value) := hd.get 10 rfl
      dsimp only at hK ⊢
      rw [d5, d10] at hK ⊢
      exact wp_value (v := (.bool true : Value)) (by rfl) (hK _ _ (Below.refl _ _) hC rfl)
    refine .cons (.plain rfl fun x w1 hC hd K hK => ?_) ?_
    · have d11 : x 11 = (.bool true : Value) := hd.get 11 rfl
      dsimp only at hK ⊢
      rw [d11] at hK ⊢
      exact wp_value (v := (.bool true : Value)) (by rfl) (hK _ _ (Below.refl _ _) hC rfl)
    exact .nil
  case xfin =>
    intro x w9 hC hΦ
    have d : x 12 = .bool true := hΦ 12 (by decide)
    dsimp only
    rw [d]
    clear hΦ
    go_wp2
    go_ret
    exact ⟨rfl, hb.trans (hC.mono hb.size)⟩

end Go.Proofs.Ytilnkfcggfaheaa
