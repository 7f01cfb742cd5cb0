/-
  A slice literal of vectors; the contracts of covers and Compare.
-/
import Derived.Test.YtilnkfcggfaheaaVecRef
import Derived.Test.YtilnkfcggfaheaaReg
namespace Go.Proofs.Ytilnkfcggfaheaa
open Go.RowKit Go.Shelf
attribute [local go_sem] Oper.semAt_some

theorem row_new (w : World) (l : List Value) (T : TypeId) : RowV (w.alloc (.cells l.toArray T)) (some ⟨w.heap.size, 0, none⟩) l := by
  have h := RowV.of_block (heap_alloc_new w (Obj.cells l.toArray T)) l.length
  simpa using h

theorem vec_fill (Vs : List (List Int)) (hV : ∀ V ∈ Vs, V.length = 16) (cells : Array Value) (hs : cells.size = Vs.length * 16) :
    Instr.fill (fun i => some (i * 16, 16)) cells (((Vs.map fun V => Value.agg (ivs V)).zipIdx 0).map fun x => (x.2, x.1)) = some (Vs.flatMap ivl).toArray := by
  obtain ⟨r, hr, hsz, hk⟩ := Go.Great.fill_dense (s := 16) (by omega) (Vs.map fun V => Value.agg (ivs V)) 0 cells (fun v hv => by
    obtain ⟨V, h, rfl⟩ := List.mem_map.1 hv
    show (ivs V).size = 16
    rw [ivs_size]; exact hV V h) (by simp [hs])
  rw [hr]
  congr 1
  apply Array.ext_getElem?
  intro k
  rw [hk k]
  have hf := flat_length hV
  by_cases h : k < Vs.length * 16
  · rw [if_pos ⟨by omega, by simpa using h⟩]
    have hd : k / 16 < Vs.length := by omega
    have h2 := flat_get hV (k / 16) hd (k % 16) (by omega)
    rw [show 16 * (k / 16) + k % 16 = k by omega] at h2
    rw [List.getElem?_toArray, h2]
    simp only [Nat.sub_zero, List.getElem?_map, List.getElem?_eq_getElem hd, Option.map_some, Option.bind_some, Option.getD_some]
    show (ivs Vs[k / 16])[k % 16]? = _
    unfold ivs
    rw [List.getElem?_toArray]
  · rw [if_neg (by simp; omega), Array.getElem?_eq_none (by omega), List.getElem?_toArray, List.getElem?_eq_none (by omega)]

theorem run_bsl (T : TypeId) (hT : Try.prog.underlying T = some (.slice 25)) (Vs : List (List Int)) (hV : ∀ V ∈ Vs, V.length = 16) (h0 : 0 < Vs.length) (h1 : Vs.length ≤ 1000) (w : World) :
    (Instr.buildSlice T Vs.length (((Vs.map fun V => Value.agg (ivs V)).zipIdx 0).map fun x => (x.2, x.1)).toArray).run Try.prog w =
      .ok (.slice (some ⟨w.heap.size, 0, none⟩) Vs.length Vs.length) (w.alloc (.cells (Vs.flatMap ivl).toArray 25)) := by
  have hinfo : (Try.prog.info? 25).map (fun i => (i.zero, i.size, i.bytes)) = some (some (.agg vz), 16, 128) := by kernel_rfl
  obtain ⟨i0, hi, hz0, hz1, hz2⟩ := info_parts hinfo
  refine run_buildSlice w T 25 Vs.length _ _ i0 (.agg vz) hT hi hz0 (by rw [hz1]; omega) (by rw [hz1]; omega) ?_
  rw [hz1]
  exact vec_fill Vs hV _ (by simp)

theorem run_bs2 (U V : List Int) (hU : U.length = 16) (hV : V.length = 16) (w : World) :
    (Instr.buildSlice 37 2 #[(0, .agg (ivs U)), (1, .agg (ivs V))]).run Try.prog w =
      .ok (.slice (some ⟨w.heap.size, 0, none⟩) 2 2) (w.alloc (.cells ([U, V].flatMap ivl).toArray 25)) :=
  run_bsl 37 Try.underlying37 [U, V] (by simp [hU, hV]) (by simp) (by simp) w
theorem run_bs3 (U V X : List Int) (hU : U.length = 16) (hV : V.length = 16) (hX : X.length = 16) (w : World) :
    (Instr.buildSlice 37 3 #[(0, .agg (ivs U)), (1, .agg (ivs V)), (2, .agg (ivs X))]).run Try.prog w =
      .ok (.slice (some ⟨w.heap.size, 0, none⟩) 3 3) (w.alloc (.cells ([U, V, X].flatMap ivl).toArray 25)) :=
  run_bsl 37 Try.underlying37 [U, V, X] (by simp [hU, hV, hX]) (by simp) (by simp) w
theorem run_bs1 (U : List Int) (hU : U.length = 16) (w : World) :
    (Instr.buildSlice 37 1 #[(0, .agg (ivs U))]).run Try.prog w =
      .ok (.slice (some ⟨w.heap.size, 0, none⟩) 1 1) (w.alloc (.cells ([U].flatMap ivl).toArray 25)) :=
  run_bsl 37 Try.underlying37 [U] (by simp [hU]) (by simp) (by simp) w

theorem Try.eqTypeVec : Try.prog.eqGuardType Try.prog.depth 25 = false := by kernel_rfl
theorem exec_eqv {ρ : Operand → Value} {o : Oper} (x y : Operand) (R : TypeId) (ho : o.op = .binOp .eql 25 x y R) (U V : List Int) (hx : ρ x = .agg (ivs U)) (hy : ρ y = .agg (ivs V))
    (hU : U.length = 16) (hV : V.length = 16) (w : World) : (execOp ρ o).run Try.prog w = .ok (.value (.bool (decide (U = V)))) w := by
  unfold execOp
  rw [ho]
  simp only [hx, hy, Sem.run_bind, run_eqGuard_agg (hm := Try.eqTypeVec), Result.andThen_ok]
  have e : Go.binOp .eql 25 (.agg (ivs U)) (.agg (ivs V)) = (do pure (.bool (← Op.equal 25 (.agg (ivs U)) (.agg (ivs V))))) := rfl
  rw [e]
  have h := eql_vec U V hU hV w
  simp only [Op.equal, Op.maxDepth, Sem.run_bind, h, Result.andThen_ok, Sem.run_pure]
theorem exec_nev {ρ : Operand → Value} {o : Oper} (x y : Operand) (R : TypeId) (ho : o.op = .binOp .neq 25 x y R) (U V : List Int) (hx : ρ x = .agg (ivs U)) (hy : ρ y = .agg (ivs V))
    (hU : U.length = 16) (hV : V.length = 16) (w : World) : (execOp ρ o).run Try.prog w = .ok (.value (.bool (!decide (U = V)))) w := by
  unfold execOp
  rw [ho]
  simp only [hx, hy, Sem.run_bind, run_eqGuard_agg (hm := Try.eqTypeVec), Result.andThen_ok]
  have e : Go.binOp .neq 25 (.agg (ivs U)) (.agg (ivs V)) = (do pure (.bool (!(← Op.equal 25 (.agg (ivs U)) (.agg (ivs V)))))) := rfl
  rw [e]
  have h := eql_vec U V hU hV w
  simp only [Op.equal, Op.maxDepth, Sem.run_bind, h, Result.andThen_ok, Sem.run_pure]

/-- a call of a function by its number -/
theorem exec_call {ρ : Operand → Value} {o : Oper} (f : Nat) (c : Call) (ho : o.op = .call c) (x : Operand) (hc1 : c.callee = .value x) (hc2 : ρ x = .func (.func f) #[] #[]) (args : Array Value)
    (hp : c.args.toList.map ρ = args.toList) (fn : Func) (hf : Try.prog.funcs[f]? = some fn) (hn : (fn.name == "runtime.NumGoroutine") = false) (hb : fn.body.isNone = false) (w : World) : (execOp ρ o).run Try.prog w = .ok (.enter f args) w := by
  have e : c.args.map ρ = args := by
    apply Array.toList_inj.1
    rw [Array.toList_map, hp]
  unfold execOp
  rw [ho]
  simp only [resolve, hc1, hc2, e, Sem.run_bind]
  have hn' : ¬ fn.name = "runtime.NumGoroutine" := by simpa using hn
  have hb' : ¬ fn.body = none := by intro h; rw [h] at hb; simp at hb
  simp [Deferred.ofValue, invoke, callFunc, hf, hn', hb', go_sem]

/-- a slice that holds these vectors -/
def SlV (Vs : List (List Int)) (v : Value) (w : World) : Prop := ∃ A c, v = .slice A Vs.length c ∧ RowV w A (Vs.flatMap ivl)
theorem SlV.keep {Vs : List (List Int)} {v : Value} {w w' : World} (h : SlV Vs v w) (hb : Below w.heap.size w w') : SlV Vs v w' := by
  obtain ⟨A, c, rfl, hr⟩ := h
  exact ⟨A, c, rfl, hr.keep hb⟩
theorem SlV.new (Vs : List (List Int)) (w : World) (T : TypeId) (n : Nat) (hn : n = Vs.length) : SlV Vs (.slice (some ⟨w.heap.size, 0, none⟩) n n) (w.alloc (.cells (Vs.flatMap ivl).toArray T)) := by
  subst hn
  exact ⟨_, _, rfl, row_new w _ T⟩

theorem mg_zeros {V : List Int} (hV : VecOk V) : mg zeros V = V :=
  ext16 (mg_length _ _) hV.len fun i hi => by rw [mg_get _ _ _ hi, zeros_get]; have := hV.lo i; omega
theorem mgl_two {U V : List Int} (hU : VecOk U) : mgl [U, V] = mg U V := by
  show mg (mg zeros U) V = _
  rw [mg_zeros hU]

theorem Merge_sl (Vs : List (List Int)) (v : Value) (w : World) (h : SlV Vs v w) (hok : ∀ V ∈ Vs, VecOk V) (hm : Vs.length ≤ 1099511627776) (M : List Int) (hM : mgl Vs = M) :
    Calls Try.prog 13 #[v] w fun e W' => e = .returned (.agg (ivs M)) ∧ Below w.heap.size w W' := by
  obtain ⟨A, c, rfl, hr⟩ := h
  rw [← hM]
  exact Merge_any A c Vs w hr hok hm

set_option maxRecDepth 100000 in
set_option maxHeartbeats 1000000 in
theorem covers_any (U V : List Int) (hU : VecOk U) (hV : VecOk V) (w : World) :
    Calls Try.prog 25 #[.agg (ivs U), .agg (ivs V)] w fun e w' => e = .returned (.bool (decide (mg U V = U))) ∧ Below w.heap.size w w' := by
  have hx2 : ((w.alloc (.cells (ivs U) 25)).alloc (.cells (ivs V) 25)).heap[w.heap.size]? = some (.cells (ivs U) 25 (0, 0)) := heap_alloc2_old w _ _
  have hx3 : ((w.alloc (.cells (ivs U) 25)).alloc (.cells (ivs V) 25)).heap[w.heap.size + 1]? = some (.cells (ivs V) 25 (0, 0)) := heap_alloc2_new w _ _
  have hb : Below w.heap.size w ((w.alloc (.cells (ivs U) 25)).alloc (.cells (ivs V) 25)) := ((Below.refl _ w).alloc (Nat.le_refl _) _).alloc (by simp) _
  generalize hW : ((w.alloc (.cells (ivs U) 25)).alloc (.cells (ivs V) 25)) = W at hx2 hx3 hb
  go_enter Try.func25, Try.ntmps25
  go_wp2
  clear hW
  refine wp_region_rel rfl (fun W' => Below W.heap.size W W') (fun W1 W2 => Below W1.heap.size W1 W2)
    (fun i => ([fun v _ => v = Value.agg (ivs U), fun v _ => v = Value.agg (ivs V), SlV [U, V], fun v _ => v = .agg (ivs (mg U V)), fun v _ => v = .agg (ivs U), fun v _ => v = .bool (decide (mg U V = U)), fun v _ => v = .bool (decide (mg U V = U))][i]?).getD (fun _ _ => True))
    (fun x => { tmps := #[.agg (ivs U), .agg (ivs V), .pointer (some ⟨w.heap.size, 0, none⟩), .pointer (some ⟨w.heap.size + 1, 0, none⟩), x 6, x 0, x 1, x 2, x 3, x 4, x 5], defers := [] }) (fun x => rfl)
    (by kernel_rfl) (by kernel_rfl) ?xst ((Below.refl _ _).drew) ?xop ?xfin
  case xst =>
    intro i v w1 w2 h hb
    rcases i with _ | _ | _ | _ | _ | _ | _ | i
    · exact h
    · exact h
    · exact SlV.keep h hb
    all_goals exact h
  case xop =>
    refine .cons (.plain rfl fun x w1 hC hd K hK => ?_) (.cons (.plain rfl fun x w1 hC hd K hK => ?_) (.cons (.plain rfl fun x w1 hC hd K hK => ?_) (.cons (.plain rfl fun x w1 hC hd K hK => ?_) (.cons (.plain rfl fun x w1 hC hd K hK => ?_) (.cons (.plain rfl fun x w1 hC hd K hK => ?_) (.cons (.plain rfl fun x w1 hC hd K hK => ?_) .nil))))))
    · exact wp_load_row 25 (.tmp 2) rfl w.heap.size rfl 25 (ivs U) (0, 0) _ ((hC.block _ (Array.getElem?_eq_some_iff.1 hx2).1).trans hx2) Try.underlying25 rfl (vec_info hU.len) (hK _ _ (Below.refl _ _) hC rfl)
    · exact wp_load_row 25 (.tmp 3) rfl (w.heap.size + 1) rfl 25 (ivs V) (0, 0) _ ((hC.block _ (Array.getElem?_eq_some_iff.1 hx3).1).trans hx3) Try.underlying25 rfl (vec_info hV.len) (hK _ _ (Below.refl _ _) hC rfl)
    · have d0 : x 0 = .agg (ivs U) := hd.1
      have d1 : x 1 = .agg (ivs V) := hd.2.1
      rw [d0, d1] at hK ⊢
      refine wp_value' (v := .slice (some ⟨w1.heap.size, 0, none⟩) 2 2) (w' := w1.alloc (.cells ([U, V].flatMap ivl).toArray 25)) ?_ (hK _ _ ((Below.refl _ _).alloc (Nat.le_refl _) _) (hC.alloc hC.size _) (SlV.new [U, V] w1 _ 2 rfl))
      exact exec_build 37 2 _ rfl _ rfl (run_bs2 U V hU.len hV.len w1)
    · have d0 : SlV [U, V] (x 2) w1 := hd.1
      exact wp_called (f := 13) (args := #[x 2]) (exec_call 13 _ rfl _ rfl rfl #[x 2] rfl _ Try.func13 (by kernel_rfl) (by kernel_rfl) w1) (Merge_sl [U, V] (x 2) w1 d0 (by simp [hU, hV]) (by simp) (mg U V) (mgl_two hU)) (fun e w' ⟨he, hb⟩ => ⟨_, he, hK _ _ hb (hC.trans (hb.mono hC.size)) rfl⟩)
    · exact wp_load_row 25 (.tmp 2) rfl w.heap.size rfl 25 (ivs U) (0, 0) _ ((hC.block _ (Array.getElem?_eq_some_iff.1 hx2).1).trans hx2) Try.underlying25 rfl (vec_info hU.len) (hK _ _ (Below.refl _ _) hC rfl)
    · have d0 : x 3 = .agg (ivs (mg U V)) := hd.1
      have d1 : x 4 = .agg (ivs U) := hd.2.1
      rw [d0, d1] at hK ⊢
      exact wp_value (exec_eqv (.tmp 8) (.tmp 9) _ rfl (mg U V) U rfl rfl (mg_length _ _) hU.len w1) (hK _ _ (Below.refl _ _) hC rfl)
    · have d0 : x 5 = .bool (decide (mg U V = U)) := hd.1
      rw [d0] at hK ⊢
      exact wp_value (v := .bool (decide (mg U V = U))) rfl (hK _ _ (Below.refl _ _) hC rfl)
  case xfin =>
    intro x w1 hC hΦ
    have d6 : x 6 = .bool (decide (mg U V = U)) := hΦ 6 (by decide)
    rw [d6]
    clear hΦ
    go_wp2
    go_ret
    exact ⟨rfl, hb.trans (hC.mono hb.size)⟩

end Go.Proofs.Ytilnkfcggfaheaa
