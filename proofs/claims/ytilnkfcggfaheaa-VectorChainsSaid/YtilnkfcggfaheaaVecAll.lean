/-
  The iterator of the package vector over the nonzero numbers: its contract for whatever loop goes over it.
-/
import Derived.RangeFuncNested
import Derived.RangeFuncBound
import Derived.RangeFuncCalls
import Derived.RangeFuncLeaves
import Derived.RangeFuncFrom
import Derived.Shelf.Abstract
import Derived.Shelf.RegionOpen
import Derived.WalkKit
import Derived.OwnWalkIn
import Derived.TacticsInMore
import Derived.LoopNIn
import Derived.LoopIn
import Derived.Deep.MidRow
import Derived.Test.YtilnkfcggfaheaaBytes
namespace Go.Proofs.Ytilnkfcggfaheaa
open Go.RowKit Go.Shelf

attribute [local go_sem] Oper.semAt_some

/-- numbers of a vector as values, as cells -/
def ivl (V : List Int) : List Value := V.map (Value.int .i64)
def ivs (V : List Int) : Array Value := (ivl V).toArray
theorem ivl_length (V : List Int) : (ivl V).length = V.length := by simp [ivl]
theorem ivs_size (V : List Int) : (ivs V).size = V.length := by simp [ivs, ivl]
theorem ivs_get (V : List Int) (i : Nat) (h : i < V.length) : (ivs V)[i]? = some (.int .i64 (V[i]?.getD 0)) := by simp [ivs, ivl, h]
theorem ivs_one (V : List Int) : (ivs V).all (·.oneCell') = true := by
  simp only [ivs, ivl, List.all_toArray, List.all_map, List.all_eq_true]
  intro x _
  rfl

section
variable {F : Fence} {n : Nat} {P : Program} {ops : Array Oper} {rest : List Oper} {o : Oper} {a : Act} {w : World} {Q : Exit → Act → World → Prop}
/-- a whole array out of its block, inside a fence -/
theorem wpListIn_load_row (hgd : o.guard = none) (ty : TypeId) (x : Operand) (ho : o.op = .load ty x)
    (g : Nat) (hx : a.eval x = .pointer (some ⟨g, 0, none⟩)) (t : TypeId) (cs : Array Value) (fr : Nat × Nat) (d : TypeDesc) (hg : w.heap[g]? = some (.cells cs t fr))
    (hu : P.underlying ty = some d) (hd : (match d with | .struct _ | .array _ _ => true | _ => false) = true) (hi : (P.info? ty).map (·.size) = some cs.size)
    (h : wpListIn F n P ops Q rest (a.put o.dst (.agg cs)) w) : wpListIn F n P ops Q (o :: rest) a w := by
  refine wpListIn_plain hgd fun K hK => ?_
  unfold Oper.wpIn
  refine ⟨by simp [Oper.about, ho], ?_⟩
  rw [Oper.semAt_plain F _ _ (by rw [ho]; intro c hc; cases hc)]
  unfold execOp
  simp only [ho, hx, Instr.loadAt, Instr.sureAddr, Sem.run_bind, Sem.run_pure, Result.andThen_ok, run_loadVar_row w g t ty cs fr d hg hu hd hi]
  exact hK _ _ h
/-- a whole array into its block -/
theorem wpList_store_row (hgd : o.guard = none) (ty : TypeId) (x y : Operand) (ho : o.op = .store ty x y)
    (g : Nat) (t : TypeId) (old cells : Array Value) (hx : a.eval x = .pointer (some ⟨g, 0, none⟩)) (hy : a.eval y = .agg cells)
    (hg : w.heap[g]? = some (.cells old t (0, 0))) (hi : (P.info? ty).map (·.size) = some cells.size) (hs : old.size = cells.size) (h1 : cells.all (·.oneCell') = true)
    (h : wpList P ops Q rest (a.put o.dst undef) (w.setRow g cells)) : wpList P ops Q (o :: rest) a w := by
  refine wpList_plain hgd fun K hK => ?_
  unfold Oper.wp execOp
  simp only [ho, hx, hy, Instr.storeAt, Instr.sureAddr, Sem.run_bind, Sem.run_pure, Result.andThen_ok, run_storeVar_row w g t ty old cells hg hi hs h1]
  exact hK _ _ h
theorem wpListIn_store_row (hgd : o.guard = none) (ty : TypeId) (x y : Operand) (ho : o.op = .store ty x y)
    (g : Nat) (t : TypeId) (old cells : Array Value) (hx : a.eval x = .pointer (some ⟨g, 0, none⟩)) (hy : a.eval y = .agg cells)
    (hg : w.heap[g]? = some (.cells old t (0, 0))) (hi : (P.info? ty).map (·.size) = some cells.size) (hs : old.size = cells.size) (h1 : cells.all (·.oneCell') = true)
    (h : wpListIn F n P ops Q rest (a.put o.dst undef) (w.setRow g cells)) : wpListIn F n P ops Q (o :: rest) a w := by
  refine wpListIn_plain hgd fun K hK => ?_
  unfold Oper.wpIn
  refine ⟨by simp [Oper.about, ho], ?_⟩
  rw [Oper.semAt_plain F _ _ (by rw [ho]; intro c hc; cases hc)]
  unfold execOp
  simp only [ho, hx, hy, Instr.storeAt, Instr.sureAddr, Sem.run_bind, Sem.run_pure, Result.andThen_ok, run_storeVar_row w g t ty old cells hg hi hs h1]
  exact hK _ _ h
end

theorem Try.infoVec : (Try.prog.info? 25).map (·.size) = some 16 := by kernel_rfl
theorem Try.infoArr : (Try.prog.info? 22).map (·.size) = some 16 := by kernel_rfl
theorem vec_info {V : List Int} (hV : V.length = 16) : (Try.prog.info? 25).map (·.size) = some (ivs V).size := by rw [ivs_size, hV]; exact Try.infoVec
theorem arr_info {V : List Int} (hV : V.length = 16) : (Try.prog.info? 22).map (·.size) = some (ivs V).size := by rw [ivs_size, hV]; exact Try.infoArr

/-- an array value at an index -/
theorem run_index_ivs (T : TypeId) (hT : Try.prog.underlying T = some (.array 16 3)) (V : List Int) (hV : V.length = 16) (k : Nat) (hk : k < 16) (w : World) :
    (Instr.index T (.agg (ivs V)) (.int .i64 (k : Int))).run Try.prog w = .ok (.int .i64 (V[k]?.getD 0)) w := by
  have hinfo : (Try.prog.info? 3).map (fun i => (i.zero, i.size, i.bytes)) = some (some (.int .i64 0), 1, 8) := by kernel_rfl
  obtain ⟨i0, hi, hz0, hz1, hz2⟩ := info_parts hinfo
  have hg := ivs_get V k (by omega)
  simp [Instr.index, go_sem, run_underlying hT, sizeOf, typeInfo, hi, hz1]
  rw [if_pos hk, hg]
  rfl

/-- what has come when the first k places are over: the places whose numbers are not 0 -/
def nzTo (V : List Int) : Nat → List (Fin 16)
  | 0 => []
  | k + 1 => if h : k < 16 then (if V[k]?.getD 0 = 0 then nzTo V k else nzTo V k ++ [⟨k, h⟩]) else nzTo V k
theorem nzTo_zero (V : List Int) : nzTo V 0 = [] := rfl
theorem nzTo_skip {V : List Int} {k : Nat} (h : V[k]?.getD 0 = 0) : nzTo V (k + 1) = nzTo V k := by
  simp [nzTo, h]
theorem nzTo_take {V : List Int} {k : Nat} (hk : k < 16) (h : V[k]?.getD 0 ≠ 0) : nzTo V (k + 1) = nzTo V k ++ [⟨k, hk⟩] := by
  simp [nzTo, hk, h]
theorem nzTo_length (V : List Int) : ∀ k, (nzTo V k).length ≤ k
  | 0 => Nat.le_refl _
  | k + 1 => by
    have := nzTo_length V k
    unfold nzTo
    split
    · split
      · omega
      · simp; omega
    · omega

abbrev encs (V : List Int) (i : Fin 16) : Array Value := #[.int .i64 (i.1 : Int), .int .i64 (V[i.1]?.getD 0)]

set_option maxRecDepth 100000 in
set_option maxHeartbeats 2000000 in
theorem all1_in (F : Fence) (n : Nat) (h6 : F.fn 33) (hro : F.round = none) (hn : 1 ≤ n) (l Bs n₀ : Nat) (fr : Nat × Nat) (V : List Int) (hV : V.length = 16) (J Jx : List (Fin 16) → World → Prop)
    (hY : ∀ pre x W, J pre W → pre.length < 16 → YieldAt F (n - 1) Try.prog l (encs V x) W fun e W' =>
      (e = .returned (.bool true) ∧ J (pre ++ [x]) W' ∧ Below n₀ W W') ∨ (e = .returned (.bool false) ∧ Jx (pre ++ [x]) W'))
    (W : World) (hBs : W.heap[Bs]? = some (.cells (ivs V) 25 fr)) (h0 : J [] W) :
    CallsIn F n Try.prog 33 #[.func (.yield l) #[] #[], .pointer (some ⟨Bs, 0, none⟩)] W fun e W' => (∃ v, e = .returned v) ∧
      ((∃ ys, ys = nzTo V 16 ∧ J ys W') ∨ (∃ pre, (∃ k, k ≤ 16 ∧ pre = nzTo V k) ∧ Jx pre W')) := by
  have hidx := run_index_ivs 25 Try.underlying25 V hV
  refine callsIn_of_wp Try.func33 rfl h6 ?_ hro
  simp only [Try.ntmps33, List.size_toArray, List.length_cons, List.length_nil, Nat.reduceAdd, Nat.reduceSub, Array.replicate_succ, Array.replicate_zero, List.push_toArray, List.append_toArray, List.nil_append, List.cons_append]
  gi_wp2_with (refine wpListIn_load_row rfl 25 (.tmp 1) rfl Bs rfl 25 (ivs V) fr _ hBs Try.underlying25 rfl (vec_info hV) ?_)
  clear hBs
  have HV := Lib.hid hV
  clear hV
  have HI := Lib.hid hidx
  clear hidx
  gi_loopw [6] (fun i wr => ∃ k : Nat, k ≤ 16 ∧ i = .int .i64 k ∧ J (nzTo V k) wr) (fun i _ => 16 - (intOf i).toNat)
  case atStart => exact ⟨0, Nat.zero_le _, rfl, h0⟩
  case round =>
    obtain ⟨k, hk, rfl, hJs⟩ := hrel
    by_cases hlt : k < 16
    · obtain ⟨x, hx⟩ : ∃ x, V[k]?.getD 0 = x := ⟨_, rfl⟩
      have hix := HI.out k hlt
      rw [hx] at hix
      by_cases hz : x = 0
      · subst hz
        have HN := Lib.hid (nzTo_skip hx)
        clear hx
        gi_wp2
        refine ⟨fun _ h => (by cases h), ?_⟩
        gi_wp2
        go_roundw
        case rel => exact ⟨k + 1, by omega, by go_num, by rw [HN.out]; exact hJs⟩
        case measure => simp [intOf]; omega
      · have HN := Lib.hid (nzTo_take (V := V) (k := k) hlt (by rw [hx]; exact hz))
        have ht : (x != 0) = true := by simp [hz]
        have hJl : (nzTo V k).length < 16 := by have := nzTo_length V k; omega
        obtain ⟨fn, tmps, assign, body, hy, hR⟩ := hY _ ⟨k, hlt⟩ wr hJs hJl
        dsimp only [encs] at hy
        rw [hx] at hy
        clear hx hJl
        gi_wp2
        refine hR.mono ?_
        rintro e W3 (⟨rfl, hJ3, hk3⟩ | ⟨rfl, hJx3⟩)
        · gi_wp2
          go_roundw
          case rel => exact ⟨k + 1, by omega, by go_num, by rw [HN.out]; exact hJ3⟩
          case measure => simp [intOf]; omega
        · gi_wp2
          refine bodyPost_ret (results_none rfl _ _ _) rfl ?_
          exact ⟨⟨_, rfl⟩, .inr ⟨_, ⟨k + 1, by omega, rfl⟩, by rw [HN.out]; exact hJx3⟩⟩
    · obtain rfl : k = 16 := by omega
      gi_wp2
      go_end0
      exact ⟨⟨_, rfl⟩, .inl ⟨_, rfl, hJs⟩⟩

/-- all() boxes the vector; the function value captures the box -/
theorem all_in (F : Fence) (n : Nat) (h5 : F.fn 26) (hro : F.round = none) (cs : Array Value) (w : World) :
    CallsIn F n Try.prog 26 #[.agg cs] w fun e w' => e = .returned (.func (.func 33) #[] #[.pointer (some ⟨w.heap.size, 0, none⟩)]) ∧ w' = w.alloc (.cells cs 25) := by
  refine callsIn_of_wp Try.func26 rfl h5 ?_ hro
  simp only [Try.ntmps26, List.size_toArray, List.length_cons, List.length_nil, Nat.reduceAdd, Nat.reduceSub, Array.replicate_succ, Array.replicate_zero, List.push_toArray, List.append_toArray, List.nil_append, List.cons_append]
  gi_wp2
  go_ret
  exact ⟨rfl, rfl⟩

/-- the function value's contract: all nonzero numbers, in order; or a part of them, a round having said no more -/
theorem all_stops (F : Fence) (n : Nat) (h6 : F.fn 33) (hro : F.round = none) (hn : 1 ≤ n) (Bs n₀ : Nat) (V : List Int) (hV : V.length = 16) (w : World) (hBs : w.heap[Bs]? = some (.cells (ivs V) 25 (0, 0))) :
    SeqStopsK F n Try.prog 33 #[.pointer (some ⟨Bs, 0, none⟩)] (encs V) (Below n₀) (fun ys => ys = nzTo V 16) (fun pre => ∃ k, k ≤ 16 ∧ pre = nzTo V k) 16 w := fun l J Jx W hW _ _ hY h0 => by
  have hlt : Bs < w.heap.size := (Array.getElem?_eq_some_iff.1 hBs).1
  exact all1_in F n h6 hro hn l Bs n₀ (0, 0) V hV J Jx hY W ((hW.block Bs hlt).trans hBs) h0

end Go.Proofs.Ytilnkfcggfaheaa
