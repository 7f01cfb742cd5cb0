/-
  The contract of field.New: a new block that holds a field.
-/
import Derived.Test.YtfmccbijkagfnaaFieldRef
namespace Go.Proofs.Ytfmccbijkagfnaa
open Go.RowKit

/-- an empty field's cells -/
def fz : Array Value := Array.replicate 510 (.int .u8 0) ++ Array.replicate 256 (.int .i64 0)
theorem fz_size : fz.size = 766 := by simp [fz]
theorem run_zero_field (w : World) : (zeroValue 45).run Try.prog w = .ok (.agg fz) w := by kernel_rfl

/-- what a round stores -/
def fset (cs : Array Value) (n x : Nat) : Array Value :=
  ((cs.setIfInBounds n (.int .u8 (x : Nat))).setIfInBounds (n + 255) (.int .u8 (x : Nat))).setIfInBounds (510 + x) (.int .i64 (n : Nat))
def dbl (x : Nat) : Nat := if 255 < x * 2 then (x * 2) ^^^ 285 else x * 2
def fx : Nat → Nat
  | 0 => 1
  | n + 1 => dbl (fx n)
def fcs : Nat → Array Value
  | 0 => fz
  | n + 1 => fset (fcs n) n (fx n)
theorem fcs_size : ∀ n, (fcs n).size = 766
  | 0 => fz_size
  | n + 1 => by simp [fcs, fset, fcs_size n]
theorem fx_all : Gf.all (fun n => Nat.beq (fx n) (Gf.ex n)) 256 = true := by decide +kernel
theorem fx_eq {n : Nat} (h : n < 256) : fx n = Gf.ex n := Nat.eq_of_beq_eq_true (Gf.all_of fx_all n h)

theorem set_get (cs : Array Value) (i j : Nat) (v : Value) (hj : j < cs.size) : (cs.setIfInBounds i v)[j]? = if i = j then some v else cs[j]? := by
  rw [Array.getElem?_setIfInBounds]
  split
  · rename_i h; subst h; rw [if_pos hj]
  · rfl
theorem fset_get (cs : Array Value) (n x j : Nat) (hs : cs.size = 766) (hj : j < 766) : (fset cs n x)[j]? =
    if 510 + x = j then some (.int .i64 (n : Nat)) else if n + 255 = j then some (.int .u8 (x : Nat)) else if n = j then some (.int .u8 (x : Nat)) else cs[j]? := by
  unfold fset
  rw [set_get _ _ _ _ (by simp [hs, hj]), set_get _ _ _ _ (by simp [hs, hj]), set_get _ _ _ _ (by simp [hs, hj])]
theorem fcs_at : ∀ n, n ≤ 255 → ∀ i, i < n → (fcs n)[i]? = some (.int .u8 (fx i : Nat)) ∧ (fcs n)[i + 255]? = some (.int .u8 (fx i : Nat)) ∧ (fcs n)[510 + fx i]? = some (.int .i64 (i : Nat))
  | 0, _, _, h => by omega
  | n + 1, hn, i, hi => by
    have hx : fx i < 256 := by rw [fx_eq (by omega)]; exact Gf.ex_lt _
    have hy : fx n < 256 := by rw [fx_eq (by omega)]; exact Gf.ex_lt _
    have S := fcs_size n
    show (fset (fcs n) n (fx n))[i]? = _ ∧ (fset (fcs n) n (fx n))[i + 255]? = _ ∧ (fset (fcs n) n (fx n))[510 + fx i]? = _
    rw [fset_get _ _ _ _ S (by omega), fset_get _ _ _ _ S (by omega), fset_get _ _ _ _ S (by omega)]
    rcases Nat.lt_or_ge i n with h | h
    · obtain ⟨a, b, c⟩ := fcs_at n (by omega) i h
      have hne : fx n ≠ fx i := by
        intro e
        have l1 := Gf.lg_ex (i := n) (by omega)
        have l2 := Gf.lg_ex (i := i) (by omega)
        rw [← fx_eq (by omega), e, fx_eq (by omega), l2] at l1
        omega
      refine ⟨?_, ?_, ?_⟩
      · rw [if_neg (by omega), if_neg (by omega), if_neg (by omega)]; exact a
      · rw [if_neg (by omega), if_neg (by omega), if_neg (by omega)]; exact b
      · rw [if_neg (by omega), if_neg (by omega), if_neg (by omega)]; exact c
    · obtain rfl : i = n := by omega
      refine ⟨?_, ?_, ?_⟩
      · rw [if_neg (by omega), if_neg (by omega), if_pos rfl]
      · rw [if_neg (by omega), if_pos rfl]
      · rw [if_pos rfl]
theorem isField_of {w : World} {g : Nat} (h : w.heap[g]? = some (.cells (fcs 255) 45 (0, 0))) : IsField w g := by
  refine ⟨fun i hi => ?_, fun x hx h0 => ?_⟩
  · rw [cell_of_row _ _ _ _ _ _ h]
    rcases Nat.lt_or_ge i 255 with hl | hl
    · rw [(fcs_at 255 (by omega) i hl).1, fx_eq (by omega)]
    · have := (fcs_at 255 (by omega) (i - 255) (by omega)).2.1
      rw [Nat.sub_add_cancel hl] at this
      rw [this, fx_eq (by omega), Gf.ex_mod (i := i) hi, show i % 255 = i - 255 by omega]
  · rw [cell_of_row _ _ _ _ _ _ h]
    have := (fcs_at 255 (by omega) (Gf.lg x) (Gf.lg_lt hx h0)).2.2
    rw [fx_eq (by have := Gf.lg_lt hx h0; omega), Gf.ex_lg hx h0] at this
    exact this

theorem fcs_step {wr : World} {g k X : Nat} (hh : wr.heap[g]? = some (.cells (fcs k) 45 (0, 0))) (hX : fx k = X) :
    (((wr.setCell ⟨g, k, none⟩ (.int .u8 (X : Nat))).setCell ⟨g, k + 255, none⟩ (.int .u8 (X : Nat))).setCell ⟨g, 510 + X, none⟩ (.int .i64 (k : Nat))).drew.heap[g]? = some (.cells (fcs (k + 1)) 45 (0, 0)) := by
  subst hX
  exact heap_setCell_same _ _ _ _ _ _ (heap_setCell_same _ _ _ _ _ _ (heap_setCell_same _ _ _ _ _ _ hh))
theorem below_step {B : Nat} {w wr : World} {a b c : Nat} {u v x : Value} (h : Below B w wr) :
    Below B w (((wr.setCell ⟨B, a, none⟩ u).setCell ⟨B, b, none⟩ v).setCell ⟨B, c, none⟩ x).drew :=
  (((h.setCell (p := ⟨B, a, none⟩) (Nat.le_refl _) _).setCell (p := ⟨B, b, none⟩) (Nat.le_refl _) _).setCell (p := ⟨B, c, none⟩) (Nat.le_refl _) _).drew

set_option maxRecDepth 100000 in
set_option maxHeartbeats 800000 in
theorem New_any (w : World) :
    Calls Try.prog 10 #[] w fun e w' => e = .returned (.pointer (some ⟨w.heap.size, 0, none⟩)) ∧ IsField w' w.heap.size ∧ Below w.heap.size w w' ∧ w.heap.size < w'.heap.size := by
  have hz := run_zero_field
  have hs := fz_size
  go_enter Try.func10, Try.ntmps10
  go_wp2
  clear hz hs
  have hb0 : Below w.heap.size w (w.alloc (Obj.cells fz 45)) := (Below.refl _ w).alloc (Nat.le_refl _) _
  have hh0 := heap_alloc_new w (Obj.cells fz 45)
  have hs0 : w.heap.size < (w.alloc (Obj.cells fz 45)).heap.size := by simp
  go_loopw [2, 6] (fun ux un wr => ∃ k : Nat, k ≤ 255 ∧ un = .int .i64 k ∧ ux = .int .i64 (fx k : Nat) ∧ wr.heap[w.heap.size]? = some (.cells (fcs k) 45 (0, 0)) ∧ Below w.heap.size w wr ∧ w.heap.size < wr.heap.size) (fun _ un _ => 255 - (intOf un).toNat)
  case atStart => exact ⟨0, by omega, rfl, rfl, hh0, hb0, hs0⟩
  case round =>
    obtain ⟨k, hk, rfl, rfl, hh, hb, hs1⟩ := hrel
    by_cases hlt : k < 255
    · have hx : fx k < 256 := by rw [fx_eq (by omega)]; exact Gf.ex_lt _
      have hx0 : fx k ≠ 0 := by rw [fx_eq (by omega)]; exact Gf.ex_ne (by omega)
      have hS := fcs_size k
      obtain ⟨v1, c1⟩ : ∃ v, wr.cell? ⟨w.heap.size, k, none⟩ = some v := ⟨_, by rw [cell_of_row _ _ _ _ _ _ hh, Array.getElem?_eq_getElem (by omega)]⟩
      obtain ⟨v2, c2⟩ : ∃ v, wr.cell? ⟨w.heap.size, k + 255, none⟩ = some v := ⟨_, by rw [cell_of_row _ _ _ _ _ _ hh, Array.getElem?_eq_getElem (by omega)]⟩
      obtain ⟨v3, c3⟩ : ∃ v, wr.cell? ⟨w.heap.size, 510 + fx k, none⟩ = some v := ⟨_, by rw [cell_of_row _ _ _ _ _ _ hh, Array.getElem?_eq_getElem (by omega)]⟩
      have f1 := frozen_of_row wr w.heap.size k _ _ hh
      have f2 := frozen_of_row wr w.heap.size (k + 255) _ _ hh
      have f3 := frozen_of_row wr w.heap.size (510 + fx k) _ _ hh
      have HH := Lib.hid hh
      clear hh hS hb0 hh0 hs0
      have HK := Lib.hid (show fx (k + 1) = dbl (fx k) from rfl)
      generalize hX : fx k = X at *
      have HX := Lib.hid hX
      clear hX
      have hxor : bits .xor .i64 ((X : Int) * 2) 285 = (((X * 2) ^^^ 285 : Nat) : Int) := i64_xor_nat (X * 2) 285 (by omega) (by omega)
      by_cases hbig : 255 < X * 2
      · have HD := Lib.hid (show dbl X = (X * 2) ^^^ 285 by unfold dbl; rw [if_pos hbig])
        go_wp2
        go_region
        go_wp2
        go_roundw
        case rel => exact ⟨k + 1, by omega, by go_num, by rw [HK.out, HD.out], fcs_step HH.out HX.out, below_step hb, by simpa [World.setCell] using hs1⟩
        case measure => simp [intOf]; omega
      · have HD := Lib.hid (show dbl X = X * 2 by unfold dbl; rw [if_neg hbig])
        go_wp2
        go_region
        go_wp2
        go_roundw
        case rel => exact ⟨k + 1, by omega, by go_num, by rw [HK.out, HD.out]; go_num, fcs_step HH.out HX.out, below_step hb, by simpa [World.setCell] using hs1⟩
        case measure => simp [intOf]; omega
    · obtain rfl : k = 255 := by omega
      have hF := isField_of hh
      clear hh hb0 hh0 hs0
      have HX := Lib.hid (show fx 255 = fx 255 from rfl)
      generalize fx 255 = X at *
      go_wp2
      go_ret
      exact ⟨rfl, hF, hb, hs1⟩

end Go.Proofs.Ytfmccbijkagfnaa
