/-
  The reader: what is left; take.
-/
import Derived.Test.YtbbnmfdhpepdnaaCodA
namespace Go.Proofs.Ytbbnmfdhpepdnaa
open Go.RowKit

/-- bytes in a block, at a place that may be written -/
structure RowB (w : World) (A : Option Addr) (xs : List Nat) : Prop where
  lt : ∀ x ∈ xs, x < 256
  blk : 0 < xs.length → ∃ b off cur T fr, A = some ⟨b, off, none⟩ ∧ w.heap[b]? = some (.cells cur T fr) ∧ (∀ i, i < xs.length → cur[off + i]? = some (.int .u8 (xs[i]?.getD 0 : Nat))) ∧ ∀ i, i < xs.length → ¬ (fr.1 ≤ off + i ∧ off + i < fr.2)
theorem RowB.nil (w : World) (A : Option Addr) : RowB w A [] := ⟨by simp, by simp⟩
theorem RowB.u8 {w : World} {A : Option Addr} {xs : List Nat} (h : RowB w A xs) : RowU8 w A xs :=
  ⟨h.lt, fun i hi => by
    obtain ⟨b, off, cur, T, fr, e, hb, hc, _⟩ := h.blk (by omega)
    exact ⟨b, off, e, by rw [cell_of_row _ _ _ _ _ _ hb]; exact hc i hi⟩⟩
theorem RowB.drop {w : World} {A : Option Addr} {xs : List Nat} (h : RowB w A xs) (n : Nat) : RowB w (A.map (·.add n)) (xs.drop n) :=
  ⟨fun x hx => h.lt x (List.mem_of_mem_drop hx), fun h0 => by
    rw [List.length_drop] at h0
    obtain ⟨b, off, cur, T, fr, rfl, hb, hc, hf⟩ := h.blk (by omega)
    refine ⟨b, off + n, cur, T, fr, by simp [plain_add], hb, fun i hi => ?_, fun i hi => ?_⟩
    · rw [List.length_drop] at hi
      rw [show off + n + i = off + (n + i) by omega, hc _ (by omega), List.getElem?_drop]
    · rw [List.length_drop] at hi
      rw [show off + n + i = off + (n + i) by omega]
      exact hf _ (by omega)⟩
theorem RowB.take {w : World} {A : Option Addr} {xs : List Nat} (h : RowB w A xs) (n : Nat) : RowB w A (xs.take n) :=
  ⟨fun x hx => h.lt x (List.mem_of_mem_take hx), fun h0 => by
    rw [List.length_take] at h0
    obtain ⟨b, off, cur, T, fr, rfl, hb, hc, hf⟩ := h.blk (by omega)
    refine ⟨b, off, cur, T, fr, rfl, hb, fun i hi => ?_, fun i hi => ?_⟩
    · rw [List.length_take] at hi
      rw [hc i (by omega), List.getElem?_take, if_pos (by omega)]
    · rw [List.length_take] at hi
      exact hf i (by omega)⟩
theorem RowB.move {w w' : World} {A : Option Addr} {xs : List Nat} (h : RowB w A xs) (hk : ∀ a, A = some a → a.block < w.heap.size → w'.heap[a.block]? = w.heap[a.block]?) : RowB w' A xs :=
  ⟨h.lt, fun h0 => by
    obtain ⟨b, off, cur, T, fr, rfl, hb, hc, hf⟩ := h.blk h0
    exact ⟨b, off, cur, T, fr, rfl, (hk _ rfl (Array.getElem?_eq_some_iff.1 hb).1).trans hb, hc, hf⟩⟩
theorem RowB.of_own {w : World} {base : Nat} {A : Option Addr} {c : Nat} {xs : List Nat} (h : w.ownsRow base 5 1 (.slice A xs.length c) xs.length (u8v xs)) (hl : ∀ x ∈ xs, x < 256) : RowB w A xs :=
  ⟨hl, fun h0 => by
    rcases h.2 with ⟨_, hn⟩ | ⟨g, cap, cur, hv, _, hg, _, _, _, ht⟩
    · omega
    · injection hv with hA
      subst hA
      refine ⟨g, 0, cur, _, (0, 0), rfl, hg, fun i hi => ?_, fun i hi hh => by have := hh.2; simp at this⟩
      have : (u8v xs)[i]? = some (.int .u8 (xs[i]?.getD 0 : Nat)) := u8v_get _ _ hi
      rw [← ht, List.getElem?_take, if_pos (by omega)] at this
      rw [Nat.zero_add]
      simpa using this⟩
theorem RowB.of_u8s {w : World} {g : Nat} {T : TypeId} {xs : List Nat} (h : w.heap[g]? = some (.cells (u8s xs) T (0, 0))) (hl : ∀ x ∈ xs, x < 256) : RowB w (some ⟨g, 0, none⟩) xs :=
  ⟨hl, fun h0 => ⟨g, 0, u8s xs, _, (0, 0), rfl, h, fun i hi => by rw [Nat.zero_add]; exact u8s_get _ _ hi, fun i hi hh => by have := hh.2; simp at this⟩⟩

/-- a reader at block g: what is left -/
structure Rd (w : World) (g : Nat) (A : Option Addr) (c : Nat) (xs : List Nat) : Prop where
  cell : w.heap[g]? = some (.cells #[.slice A xs.length c] 53 (0, 0))
  row : RowB w A xs
  cap : xs.length ≤ c
  big : c ≤ 9223372036854775807
  apart : ∀ a, A = some a → a.block ≠ g
  old : ∀ a, A = some a → a.block < w.heap.size
theorem Rd.move {w w' : World} {g : Nat} {A : Option Addr} {c : Nat} {xs : List Nat} (h : Rd w g A c xs) (hs : w.heap.size ≤ w'.heap.size) (hg : w'.heap[g]? = w.heap[g]?) (hk : ∀ a, A = some a → a.block < w.heap.size → w'.heap[a.block]? = w.heap[a.block]?) : Rd w' g A c xs :=
  ⟨hg.trans h.cell, h.row.move hk, h.cap, h.big, h.apart, fun a ha => Nat.lt_of_lt_of_le (h.old a ha) hs⟩
theorem Rd.below {w w' : World} {g : Nat} {A : Option Addr} {c : Nat} {xs : List Nat} (h : Rd w g A c xs) (hb : Below w.heap.size w w') : Rd w' g A c xs :=
  h.move hb.size (hb.block _ (Array.getElem?_eq_some_iff.1 h.cell).1) (fun _ _ hl => hb.block _ hl)
/-- what comes behind a take -/
theorem Rd.take {w : World} {g : Nat} {A : Option Addr} {c : Nat} {xs : List Nat} (h : Rd w g A c xs) {n : Nat} (hn : n ≤ xs.length) {A' : Option Addr} (hA : A' = A.map (·.add n) ∨ (A' = A ∧ n = c)) :
    Rd (w.setCell ⟨g, 0, none⟩ (.slice A' (xs.length - n) (c - n))) g A' (c - n) (xs.drop n) := by
  have hrow : RowB w A' (xs.drop n) := by
    rcases hA with rfl | ⟨rfl, e⟩
    · exact h.row.drop n
    · have : xs.drop n = [] := List.drop_eq_nil_of_le (by have := h.cap; omega)
      rw [this]
      exact RowB.nil _ _
  have hap : ∀ a, A' = some a → a.block ≠ g := by
    rcases hA with rfl | ⟨rfl, _⟩
    · intro a ha
      cases hA : A with
      | none => rw [hA] at ha; cases ha
      | some q =>
        rw [hA] at ha
        have e : q.add n = a := by simpa using ha
        have := h.apart q hA
        rw [← e]
        unfold Addr.add
        split <;> exact this
    · exact h.apart
  have hold : ∀ a, A' = some a → a.block < w.heap.size := by
    rcases hA with rfl | ⟨rfl, _⟩
    · intro a ha
      cases hA : A with
      | none => rw [hA] at ha; cases ha
      | some q =>
        rw [hA] at ha
        have e : q.add n = a := by simpa using ha
        have := h.old q hA
        rw [← e]
        unfold Addr.add
        split <;> exact this
    · exact h.old
  refine ⟨?_, hrow.move (fun a ha _ => Below.heap_setCell _ _ _ _ (hap a ha)), ?_, ?_, hap, fun a ha => by simpa [World.setCell] using hold a ha⟩
  · have := heap_setCell_same w g 0 _ _ (.slice A' (xs.length - n) (c - n)) h.cell
    rw [this, List.length_drop]
    rfl
  · have := h.cap; rw [List.length_drop]; omega
  · have := h.big; omega

set_option linter.unusedVariables false
set_option maxHeartbeats 400000 in
theorem take_no (g : Nat) (A : Option Addr) (c : Nat) (xs : List Nat) (n : Nat) (w : World) (h : Rd w g A c xs) (hn : xs.length < n) (hm : n ≤ 9223372036854775807) :
    Calls Try.prog 28 #[.pointer (some ⟨g, 0, none⟩), .int .i64 (n : Int)] w fun e w' => e = .panicked (thrown g 6) ∧ w = w' := by
  have c1 := cell_of_row w g 0 _ _ _ h.cell
  have hc := h.cap
  have hb := h.big
  generalize xs.length = len at *
  have t1 : decide ((n : Int) > (len : Int)) = true := by simp; omega
  go_enter Try.func28, Try.ntmps28
  go_wp2_with (fail)
  refine (Fail_any g 6 6 rfl _).mono ?_
  rintro e w' ⟨rfl, rfl⟩
  go_wp2
  exact ⟨rfl, rfl, rfl⟩

/-- a slice that lies in another one's block -/
def SameB (A A' : Option Addr) : Prop := ∀ a, A' = some a → ∃ q, A = some q ∧ q.block = a.block
theorem SameB.refl (A : Option Addr) : SameB A A := fun a h => ⟨a, h, rfl⟩
theorem SameB.trans {A B C : Option Addr} (h : SameB A B) (h' : SameB B C) : SameB A C := fun a ha => by
  obtain ⟨q, hq, e⟩ := h' a ha
  obtain ⟨r, hr, e'⟩ := h q hq
  exact ⟨r, hr, e'.trans e⟩
theorem SameB.of {A A' : Option Addr} {n c : Nat} (h : A' = A.map (·.add n) ∨ (A' = A ∧ n = c)) : SameB A A' := by
  rcases h with rfl | ⟨rfl, _⟩
  · intro a ha
    cases hA : A with
    | none => rw [hA] at ha; cases ha
    | some q =>
      rw [hA] at ha
      have e : q.add n = a := by simpa using ha
      refine ⟨q, rfl, ?_⟩
      rw [← e]
      unfold Addr.add
      split <;> rfl
  · exact SameB.refl _
/-- what take leaves -/
def Took (g : Nat) (A : Option Addr) (c : Nat) (xs : List Nat) (n : Nat) (w : World) (e : Ending) (w' : World) : Prop :=
  ∃ A', e = .returned (.slice A n n) ∧ Rd w' g A' (c - n) (xs.drop n) ∧ w' = w.setCell ⟨g, 0, none⟩ (.slice A' (xs.length - n) (c - n)) ∧ (A' = A.map (·.add n) ∨ (A' = A ∧ n = c))
theorem took_mk {g : Nat} {A : Option Addr} {c : Nat} {xs : List Nat} {n : Nat} {w : World} (h : Rd w g A c xs) (hn : n ≤ xs.length) {A' : Option Addr} (hA : A' = A.map (·.add n) ∨ (A' = A ∧ n = c)) {len cn : Nat} (hl : xs.length - n = len) (hc : c - n = cn) :
    Took g A c xs n w (.returned (.slice A n n)) (w.setCell ⟨g, 0, none⟩ (.slice A' len cn)) := by
  subst hl; subst hc
  exact ⟨A', rfl, h.take hn hA, rfl, hA⟩
set_option maxHeartbeats 400000 in
theorem take_ok (g : Nat) (A : Option Addr) (c : Nat) (xs : List Nat) (n : Nat) (w : World) (h : Rd w g A c xs) (hn : n ≤ xs.length) :
    Calls Try.prog 28 #[.pointer (some ⟨g, 0, none⟩), .int .i64 (n : Int)] w (Took g A c xs n w) := by
  have c1 := cell_of_row w g 0 _ _ _ h.cell
  have f1 := frozen_of_row w g 0 _ _ h.cell
  have hc := h.cap
  have hb := h.big
  have HR := Lib.hid (And.intro h hn)
  clear h
  obtain ⟨len, hlen⟩ : ∃ len, xs.length = len := ⟨_, rfl⟩
  have HL := Lib.hid hlen
  rw [hlen] at c1 hc hn
  clear hlen
  have t1 : decide ((n : Int) > (len : Int)) = false := by simp; omega
  have t2 : (n : Int) ≤ (len : Int) := by omega
  have t3 : (n : Int) ≤ (c : Int) := by omega
  by_cases hcn : c = n
  · subst hcn
    obtain rfl : len = c := by omega
    go_enter Try.func28, Try.ntmps28
    go_wp2
    go_ret
    exact took_mk HR.out.1 HR.out.2 (.inr ⟨rfl, rfl⟩) (by rw [HL.out]; omega) (by omega)
  · go_enter Try.func28, Try.ntmps28
    go_wp2
    go_ret
    exact took_mk HR.out.1 HR.out.2 (.inl rfl) (by rw [HL.out]) rfl

end Go.Proofs.Ytbbnmfdhpepdnaa
