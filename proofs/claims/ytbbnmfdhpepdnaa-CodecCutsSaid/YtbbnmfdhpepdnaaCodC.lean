/-
  Copies of bytes.
-/
import Derived.Test.YtbbnmfdhpepdnaaCodN
import Derived.Lib.SliceRun
namespace Go.Proofs.Ytbbnmfdhpepdnaa
open Go.RowKit

/-- a slice of bytes of the call's own: the bytes lie in a block from B on, and may be written -/
structure OwnB (w : World) (B : Nat) (A : Option Addr) (c : Nat) (xs : List Nat) : Prop where
  lt : ∀ x ∈ xs, x < 256
  own : w.ownsRow B 5 1 (.slice A xs.length c) xs.length (u8v xs)
theorem OwnB.row {w : World} {B : Nat} {A : Option Addr} {c : Nat} {xs : List Nat} (h : OwnB w B A c xs) : RowB w A xs := RowB.of_own h.own h.lt
theorem OwnB.cap {w : World} {B : Nat} {A : Option Addr} {c : Nat} {xs : List Nat} (h : OwnB w B A c xs) : xs.length ≤ c ∧ c ≤ 9223372036854775807 := by
  rcases h.own.2 with ⟨e, hn⟩ | ⟨g, cap, cur, hv, _, _, h1, h2, _⟩
  · injection e with e1 e2 e3
    subst e3
    exact ⟨by omega, by omega⟩
  · injection hv with e1 e2 e3
    subst e3
    exact ⟨h1, by unfold maxLen at h2; omega⟩
theorem OwnB.from {w : World} {B : Nat} {A : Option Addr} {c : Nat} {xs : List Nat} (h : OwnB w B A c xs) (a : Addr) (ha : A = some a) : B ≤ a.block ∧ a.block < w.heap.size := by
  rcases h.own.2 with ⟨e, _⟩ | ⟨g, cap, cur, hv, hb, hg, _⟩
  · injection e with e1 e2 e3
    rw [ha] at e1; cases e1
  · injection hv with e1 e2 e3
    rw [ha] at e1; cases e1
    exact ⟨hb, (Array.getElem?_eq_some_iff.1 hg).1⟩
theorem ownsRow_keep {w w' : World} {base size : Nat} {e : TypeId} {v : Value} {n : Nat} {xs : List Value} (h : w.ownsRow base e size v n xs) (hk : ∀ g, base ≤ g → g < w.heap.size → w'.heap[g]? = w.heap[g]?) : w'.ownsRow base e size v n xs := by
  refine ⟨h.1, ?_⟩
  rcases h.2 with hn | ⟨g, cap, cur, rfl, hb, hgg, rest⟩
  · exact .inl hn
  · exact .inr ⟨g, cap, cur, rfl, hb, (hk g hb (Array.getElem?_eq_some_iff.1 hgg).1).trans hgg, rest⟩
theorem OwnB.keep {w w' : World} {B : Nat} {A : Option Addr} {c : Nat} {xs : List Nat} (h : OwnB w B A c xs) (hk : ∀ g, B ≤ g → g < w.heap.size → w'.heap[g]? = w.heap[g]?) : OwnB w' B A c xs := ⟨h.lt, ownsRow_keep h.own hk⟩
theorem OwnB.below {w w' : World} {B : Nat} {A : Option Addr} {c : Nat} {xs : List Nat} (h : OwnB w B A c xs) (hb : Below w.heap.size w w') : OwnB w' B A c xs := h.keep fun _ _ hl => hb.block _ hl
theorem OwnB.mono {w : World} {B B' : Nat} {A : Option Addr} {c : Nat} {xs : List Nat} (h : OwnB w B A c xs) (hB : B' ≤ B) : OwnB w B' A c xs := ⟨h.lt, h.own.1, by
  rcases h.own.2 with hn | ⟨g, cap, cur, hv, hb, rest⟩
  · exact .inl hn
  · exact .inr ⟨g, cap, cur, hv, by omega, rest⟩⟩
theorem OwnB.nil (w : World) (B : Nat) : OwnB w B none 0 [] := ⟨by simp, World.ownsRow_nil _ _ _ _⟩
theorem run_empty_bytes (w : World) : (Instr.buildSlice 25 0 #[]).run Try.prog w = .ok (.slice (some ⟨w.heap.size, 0, none⟩) 0 0) (w.alloc (.cells #[] 5)) := by kernel_rfl
theorem own_empty (w : World) : (w.alloc (.cells #[] 5)).ownsRow w.heap.size 5 1 (.slice (some ⟨w.heap.size, 0, none⟩) 0 0) 0 [] :=
  ⟨rfl, .inr ⟨w.heap.size, 0, #[], rfl, Nat.le_refl _, heap_alloc_new w _, Nat.le_refl _, Nat.zero_le _, rfl, rfl⟩⟩
/-- the cell of a slice of bytes' type -/
theorem info_byte : (Try.prog.info? 5).map (fun i => (i.zero, i.size, i.bytes)) = some (some (.int .u8 0), 1, 1) := by kernel_rfl

def CloneR (A : Option Addr) (xs : List Nat) (w : World) (e : Ending) (w' : World) : Prop :=
  ∃ A' c', e = .returned (.slice A' xs.length c') ∧ OwnB w' w.heap.size A' c' xs ∧ Below w.heap.size w w' ∧ w.heap.size ≤ w'.heap.size ∧ (A = none → A' = none)
set_option linter.unusedVariables false
set_option maxHeartbeats 400000 in
theorem Clone_any (A : Option Addr) (c : Nat) (xs : List Nat) (w : World) (h : RowU8 w A xs) (hm : xs.length ≤ 140737488355328) :
    Calls Try.prog 26 #[.slice A xs.length c] w (CloneR A xs w) := by
  obtain ⟨i0, hi, hz0, hz1, hz2⟩ := info_parts info_byte
  have HI := Lib.hid (And.intro hi (And.intro hz0 (And.intro hz1 hz2)))
  clear hi hz0 hz1 hz2
  have HR := Lib.hid h
  clear h
  cases A with
  | none =>
    obtain rfl : xs = [] := by
      rcases Nat.eq_zero_or_pos xs.length with h0 | h0
      · exact List.eq_nil_of_length_eq_zero h0
      · obtain ⟨b, off, e, _⟩ := HR.out.form h0
        cases e
    have heq := Lib.run_eql_slice_nil (P := Try.prog) w 25 5 none 0 c 0 0 Try.underlying25
    go_enter Try.func26, Try.ntmps26
    go_wp2
    go_ret
    exact ⟨none, 0, rfl, OwnB.nil _ _, Below.refl _ _, Nat.le_refl _, fun _ => rfl⟩
  | some a =>
    have heq := Lib.run_eql_slice_nil (P := Try.prog) w 25 5 (some a) xs.length c 0 0 Try.underlying25
    have HO := Lib.hid (own_empty w)
    have HV := Lib.hid (HR.out.below ((Below.refl _ w).alloc (Nat.le_refl _) (.cells #[] 5))).rowv
    have hbs := run_empty_bytes w
    go_enter Try.func26, Try.ntmps26
    go_wp2_with (first
      | (refine wpList_append_rowv _ rfl (.tmp 5) (.tmp 6) 25 rfl w.heap.size 5 i0 (.int .u8 0) 1 1 Try.underlying25 HI.out.1 HI.out.2.1 HI.out.2.2.1 HI.out.2.2.2 (by rfl) (by omega) (.slice (some ⟨w.heap.size, 0, none⟩) 0 0) 0 [] rfl HO.out (some a) xs.length c (u8v xs) rfl HV.out (by rw [u8v_length, Nat.mul_one]) (u8v_one xs) (by unfold maxLen; omega) (by omega) (by simp) ?_; intro A' c' w' hown' hgr))
    rw [Nat.zero_add, List.nil_append] at hown'
    have HW := Lib.hid (And.intro hown' hgr)
    clear hown' hgr
    go_ret
    exact ⟨A', c', rfl, ⟨HR.out.lt, HW.out.1⟩, ((Below.refl _ w).alloc (Nat.le_refl _) _).grown HW.out.2 (by simp) (fun j hj => by cases hj; exact Nat.le_refl _), by have := HW.out.2.size; simp at this; omega, fun e => by cases e⟩

end Go.Proofs.Ytbbnmfdhpepdnaa
