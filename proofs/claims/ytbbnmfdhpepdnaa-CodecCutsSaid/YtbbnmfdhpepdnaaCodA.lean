/-
  The codec's panics: who throws, and the deferred closure that catches.
-/
import Derived.Test.YtbbnmfdhpepdnaaBytes
import Derived.Defers
import Derived.Recover
import Derived.LaidEqlPtr
namespace Go.Proofs.Ytbbnmfdhpepdnaa
open Go.RowKit

/-- from one world to another: the blocks that K names are as they were -/
structure Kp (K : Nat → Prop) (w w' : World) : Prop where
  os : w'.os = w.os
  tape : w'.tape = w.tape
  output : w'.output = w.output
  size : w.heap.size ≤ w'.heap.size
  block : ∀ k, k < w.heap.size → K k → w'.heap[k]? = w.heap[k]?
theorem Kp.refl (K : Nat → Prop) (w : World) : Kp K w w := ⟨rfl, rfl, rfl, Nat.le_refl _, fun _ _ _ => rfl⟩
theorem Kp.trans {K : Nat → Prop} {a b c : World} (h : Kp K a b) (k : Kp K b c) : Kp K a c :=
  ⟨k.os.trans h.os, k.tape.trans h.tape, k.output.trans h.output, Nat.le_trans h.size k.size, fun i hi hK => (k.block i (Nat.lt_of_lt_of_le hi h.size) hK).trans (h.block i hi hK)⟩
theorem Kp.weak {K K' : Nat → Prop} {a b : World} (h : Kp K a b) (hK : ∀ k, k < a.heap.size → K' k → K k) : Kp K' a b := ⟨h.os, h.tape, h.output, h.size, fun i hi hk => h.block i hi (hK i hi hk)⟩
theorem Kp.of_below {B : Nat} {K : Nat → Prop} {a b : World} (h : Below B a b) (hK : ∀ k, k < a.heap.size → K k → k < B) : Kp K a b := ⟨h.os, h.tape, h.output, h.size, fun i hi hk => h.block i (hK i hi hk)⟩
theorem Kp.below {B : Nat} {K : Nat → Prop} {a b : World} (h : Kp K a b) (hB : B ≤ a.heap.size) (hK : ∀ k, k < B → K k) : Below B a b := ⟨h.os, h.tape, h.output, h.size, fun i hi => h.block i (Nat.lt_of_lt_of_le hi hB) (hK i hi)⟩
theorem Kp.setCell {K : Nat → Prop} {a w : World} (h : Kp K a w) {p : Addr} (hp : ¬ K p.block) (u : Value) : Kp K a (w.setCell p u) :=
  ⟨h.os, h.tape, h.output, by simpa [World.setCell] using h.size, fun i hi hk => (Below.heap_setCell w p u i (fun e => hp (e ▸ hk))).trans (h.block i hi hk)⟩
theorem Kp.alloc {K : Nat → Prop} {a w : World} (h : Kp K a w) (o : Obj) : Kp K a (w.alloc o) :=
  ⟨h.os, h.tape, h.output, by have := h.size; simp; omega, fun i hi hk => (Below.heap_alloc w o i (Nat.lt_of_lt_of_le hi h.size)).trans (h.block i hi hk)⟩
theorem Kp.drewN {K : Nat → Prop} {a w : World} (h : Kp K a w) (n : Nat) : Kp K a (w.drewN n) := ⟨h.os, h.tape, h.output, h.size, h.block⟩

theorem heap_alloc_get (w : World) (o : Obj) (k : Nat) : (w.alloc o).heap[k]? = if k = w.heap.size then some o else w.heap[k]? := by
  by_cases e : k = w.heap.size
  · subst e; rw [if_pos rfl]; exact heap_alloc_new w o
  · rw [if_neg e]
    rcases Nat.lt_or_ge k w.heap.size with h | h
    · exact Below.heap_alloc w o k h
    · rw [Array.getElem?_eq_none (by simp; omega), Array.getElem?_eq_none h]

theorem heap_alloc_sz (w : World) (o : Obj) : (w.alloc o).heap.size = w.heap.size + 1 := by simp

/-- what Fail throws -/
def thrown (g : Nat) (code : Int) : List PanicEntry := [{ v := .iface 55 (.agg #[.pointer (some ⟨g, 0, none⟩), .int .i64 code]), recovered := false }]

theorem Fail_any (g : Nat) (code c : Int) (hc : (if code = 0 then 6 else code) = c) (w : World) :
    Calls Try.prog 11 #[.pointer (some ⟨g, 0, none⟩), .int .i64 code] w fun e w' => e = .panicked (thrown g c) ∧ w = w' := by
  by_cases h0 : code = 0
  · subst h0
    have hc' : c = 6 := by rw [← hc]; rfl
    subst hc'
    clear hc
    go_enter Try.func11, Try.ntmps11
    go_wp2
    exact ⟨rfl, rfl, rfl⟩
  · have hc' : c = code := by rw [← hc, if_neg h0]
    subst hc'
    have t1 : (c == 0) = false := by simpa using h0
    clear hc h0
    go_enter Try.func11, Try.ntmps11
    go_wp2
    exact ⟨rfl, rfl, rfl⟩

/-- how the closure's text ends -/
def CatchPost (w : World) (ge : Nat) (code : Int) : Exit → Act → World → Prop := fun e a w' => e = .normal ∧ a.defers = [] ∧ Kp (fun k => k ≠ ge) w w' ∧ w'.heap[ge]? = some (.cells #[.int .i64 code] 23 (0, 0))
def IdlePost (w : World) : Exit → Act → World → Prop := fun e a w' => e = .normal ∧ a.defers = [] ∧ w' = w

theorem run_neq_ptr_same {P : Program} (w : World) {tp te : TypeId} {j : TypeInfo} (a : Addr) (hp : P.underlying tp = some (.pointer te)) (hte : P.info? te = some j) :
    (binOp .neq tp (.pointer (some a)) (.pointer (some a))).run P w = .ok (.bool false) w := by
  have h : ∀ d : Nat, (Op.equalIn (d + 1) tp (.pointer (some a)) (.pointer (some a))).run P w = .ok true w := fun d => by
    simp [Op.equalIn, run_underlying hp, sizeOf, typeInfo, hte, run_sameAddr_same]
  simp only [binOp]
  simp [Op.equal, Op.maxDepth, h 9999]
theorem Try.infoReader : (Try.prog.info? 53).isSome = true := by kernel_rfl
theorem run_neq_reader (w : World) (a : Addr) : (binOp .neq 26 (.pointer (some a)) (.pointer (some a))).run Try.prog w = .ok (.bool false) w := by
  obtain ⟨j, hj⟩ := Option.isSome_iff_exists.1 Try.infoReader
  exact run_neq_ptr_same w a Try.underlying26 hj
theorem run_assert_end (v : Value) (w : World) : (Instr.typeAssert (.iface 55 v) 20 55 true).run Try.prog w = .ok (.tuple #[v, .bool true]) w := by kernel_rfl
/-- the deferred closure of Read, where its reader has thrown -/
theorem catch_thrown (gr ge g : Nat) (code x : Int) (older : List PanicEntry) (w : World) (hr : w.heap[gr]? = some (.cells #[.pointer (some ⟨g, 0, none⟩)] 26 (0, 0))) (he : w.heap[ge]? = some (.cells #[.int .i64 x] 23 (0, 0))) :
    CallsD Try.prog 27 #[.pointer (some ⟨gr, 0, none⟩), .pointer (some ⟨ge, 0, none⟩)] (.panicking (thrown g code ++ older)) w fun e u' w' =>
      e = .returned (.tuple #[]) ∧ u' = .panicking ({ v := .iface 55 (.agg #[.pointer (some ⟨g, 0, none⟩), .int .i64 code]), recovered := true } :: older) ∧ Kp (fun k => k ≠ ge) w w' ∧ w'.heap[ge]? = some (.cells #[.int .i64 code] 23 (0, 0)) := by
  have cr := cell_of_row w gr 0 _ _ _ hr
  have ce := cell_of_row w ge 0 _ _ _ he
  have fe := frozen_of_row w ge 0 _ _ he
  have hgr := (Array.getElem?_eq_some_iff.1 hr).1
  have hge := (Array.getElem?_eq_some_iff.1 he).1
  refine callsD_of_wpS Try.func27 rfl fun c₀ cs hu => ?_
  apply wpS_seq
  apply wpS_region
  simp [wpOpsS, go_sem, recoverD, hu, Try.ntmps27, Exit.thenS, thrown]
  refine wpS_of_wp ?_
  refine wp_mono (Q := CatchPost w ge code) ?_ ?_
  · have ht : #[Value.pointer (some ⟨gr, 0, none⟩), Value.pointer (some ⟨ge, 0, none⟩)] ++ (Array.replicate 17 undef).setIfInBounds 3 (Value.iface 55 (Value.agg #[Value.pointer (some ⟨g, 0, none⟩), Value.int IntKind.i64 code])) =
      #[Value.pointer (some ⟨gr, 0, none⟩), Value.pointer (some ⟨ge, 0, none⟩), undef, undef, undef, Value.iface 55 (Value.agg #[Value.pointer (some ⟨g, 0, none⟩), Value.int IntKind.i64 code]), undef, undef, undef, undef, undef, undef, undef, undef, undef, undef, undef, undef, undef] := by simp [Array.replicate]
    rw [ht]
    clear ht hu
    have hta := run_assert_end
    have hne := run_neq_reader
    go_wp2
    have h1 := heap_setCell_same w ge 0 _ _ (.int .i64 code) he
    exact ⟨rfl, rfl, ((Kp.refl _ w).setCell (p := ⟨ge, 0, none⟩) (by simp) _).alloc _, (Below.heap_alloc _ _ ge (by simpa [World.setCell] using hge)).trans h1⟩
  · rintro e a' w' ⟨rfl, hd, hk, hh⟩
    exact ⟨hd, _, rfl, .tuple #[], by simp [results, Try.results27, go_sem], rfl, rfl, hk, hh⟩

/-- the same, where nobody has thrown -/
theorem catch_idle (gr ge : Nat) (w : World) :
    CallsD Try.prog 27 #[.pointer (some ⟨gr, 0, none⟩), .pointer (some ⟨ge, 0, none⟩)] .returning w fun e u' w' => e = .returned (.tuple #[]) ∧ u' = .returning ∧ w' = w := by
  refine callsD_of_wpS Try.func27 rfl fun c₀ cs hu => ?_
  apply wpS_seq
  apply wpS_region
  simp [wpOpsS, go_sem, recoverD, hu, Try.ntmps27, Exit.thenS]
  refine wpS_of_wp ?_
  refine wp_mono (Q := IdlePost w) ?_ ?_
  · have ht : #[Value.pointer (some ⟨gr, 0, none⟩), Value.pointer (some ⟨ge, 0, none⟩)] ++ (Array.replicate 17 undef).setIfInBounds 3 Value.nilIface =
      #[Value.pointer (some ⟨gr, 0, none⟩), Value.pointer (some ⟨ge, 0, none⟩), undef, undef, undef, Value.nilIface, undef, undef, undef, undef, undef, undef, undef, undef, undef, undef, undef, undef, undef] := by simp [Array.replicate]
    rw [ht]
    clear ht hu
    go_wp2
    exact ⟨rfl, rfl, rfl⟩
  · rintro e a' w' ⟨rfl, hd, rfl⟩
    refine ⟨hd, _, ?_, .tuple #[], by simp [results, Try.results27, go_sem], rfl, rfl, rfl⟩
    cases c₀
    simp_all

end Go.Proofs.Ytbbnmfdhpepdnaa
