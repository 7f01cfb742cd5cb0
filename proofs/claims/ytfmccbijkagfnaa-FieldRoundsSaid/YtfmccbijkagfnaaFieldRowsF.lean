/-
  Contracts of the package field's functions on rows: Scale and Plus make a new block with the products, or the sums, element by element.
-/
import Derived.Test.YtfmccbijkagfnaaFieldLawsW
namespace Go.Proofs.Ytfmccbijkagfnaa
open Go.RowKit

theorem IsField.lt {w : World} {g : Nat} (h : IsField w g) : g < w.heap.size := block_lt_of_cell (a := ⟨g, 0, none⟩) (h.pow 0 (by omega))
theorem IsField.kept {w w' : World} {g : Nat} (h : IsField w g) (hb : Below w.heap.size w w') : IsField w' g := h.below hb h.lt

set_option maxHeartbeats 800000 in
theorem Scale_any (g by_ : Nat) (A : Option Addr) (c : Nat) (xs : List Nat) (w : World) (hw : IsField w g) (hby : by_ < 256) (hr : RowU8 w A xs) (hm : xs.length ≤ 281474976710656) :
    Calls Try.prog 17 #[.pointer (some ⟨g, 0, none⟩), .int .u8 by_, .slice A xs.length c] w fun e w' =>
      e = .returned (.slice (some ⟨w.heap.size, 0, none⟩) xs.length xs.length) ∧ w'.heap[w.heap.size]? = some (.cells (u8s (xs.map (Gf.gm by_))) 5 (0, 0)) ∧ Below w.heap.size w w' ∧ w.heap.size < w'.heap.size := by
  obtain ⟨f, hf⟩ : ∃ f : Nat → Nat, ∀ i, f i = Gf.gm by_ (xs[i]?.getD 0) := ⟨_, fun _ => rfl⟩
  have hfull : fillr xs.length f xs.length = xs.map (Gf.gm by_) := by
    rw [fillr_full, ← range_map_get xs (Gf.gm by_)]
    exact List.map_congr_left fun i _ => hf i
  obtain ⟨len, hlen⟩ : ∃ n, n = xs.length := ⟨_, rfl⟩
  rw [← hlen] at hm hfull
  rw [← hlen, ← hfull]
  have HL := Lib.hid hlen
  have HF := Lib.hid hf
  clear hlen hf hfull
  have hmk := make_bytes len f hm
  go_enter Try.func17, Try.ntmps17
  go_wp2
  clear hmk
  have hb0 : Below w.heap.size w (w.alloc (Obj.cells (u8s (fillr len f 0)) 5)) := (Below.refl _ w).alloc (Nat.le_refl _) _
  have hh0 := heap_alloc_new w (Obj.cells (u8s (fillr len f 0)) 5)
  have hs0 : w.heap.size < (w.alloc (Obj.cells (u8s (fillr len f 0)) 5)).heap.size := by simp
  go_loopw [15] (fun i wr => ∃ k : Nat, k ≤ len ∧ i = .int .i64 k ∧ wr.heap[w.heap.size]? = some (.cells (u8s (fillr len f k)) 5 (0, 0)) ∧ Below w.heap.size w wr ∧ w.heap.size < wr.heap.size) (fun i _ => len - (intOf i).toNat)
  case atStart => exact ⟨0, Nat.zero_le _, rfl, hh0, hb0, hs0⟩
  case round =>
    obtain ⟨k, hk, rfl, hh, hb, hs1⟩ := hrel
    by_cases hlt : k < len
    · have hfr := hw.kept hb
      have hrr := hr.below hb
      obtain ⟨b, off, rfl, hc⟩ := hrr.form (by rw [← HL.out]; omega)
      have hck := hc k (by rw [← HL.out]; omega)
      have c1 : wr.cell? ⟨w.heap.size, k, none⟩ = some (.int .u8 ((fillr len f k)[k]?.getD 0 : Nat)) := by rw [cell_of_row _ _ _ _ _ _ hh, u8s_get _ _ (by rw [fillr_length]; exact hlt)]
      have f1 := frozen_of_row wr w.heap.size k _ _ hh
      have HH := Lib.hid hh
      clear hh hc hh0 hb0 hs0
      go_wp2_with (fail)
      refine (mul_any g _ _ _ hfr hby (getD_lt hr.lt k)).mono ?_
      rintro e w' ⟨rfl, m, rfl⟩
      go_wp2
      go_roundw
      case rel => exact ⟨k + 1, by omega, by go_num, by rw [← HF.out, ← fillr_set _ _ _ hlt]; exact heap_setCell_same _ _ _ _ _ _ HH.out, (below_drewN hb m).setCell (p := ⟨w.heap.size, k, none⟩) (Nat.le_refl _) _, by simpa [World.setCell] using hs1⟩
      case measure => simp [intOf]; omega
    · obtain rfl : k = len := by omega
      clear hh0 hb0 hs0
      have HH := Lib.hid hh
      clear hh
      go_wp2
      go_ret
      exact ⟨rfl, HH.out, hb, hs1⟩

theorem Plus_ne (g : Nat) (A : Option Addr) (c : Nat) (n : Nat) (A' : Option Addr) (c' n' : Nat) (w : World) (hne : n ≠ n') :
    Calls Try.prog 18 #[.pointer (some ⟨g, 0, none⟩), .slice A n c, .slice A' n' c'] w fun e w' =>
      e = .returned (.tuple #[.slice none 0 0, .int .i64 2]) ∧ w = w' := by
  have ht : ((n : Int) != (n' : Int)) = true := by simp; omega
  have ht2 : (n != n') = true := by simp; omega
  go_enter Try.func18, Try.ntmps18
  go_wp2
  go_ret2
  exact ⟨rfl, rfl⟩

set_option maxRecDepth 100000 in
set_option maxHeartbeats 800000 in
theorem Plus_any (g : Nat) (A : Option Addr) (c : Nat) (xs : List Nat) (A' : Option Addr) (c' : Nat) (ys : List Nat) (w : World) (hr : RowU8 w A xs) (hr' : RowU8 w A' ys) (hm : xs.length ≤ 281474976710656) (he : ys.length = xs.length) :
    Calls Try.prog 18 #[.pointer (some ⟨g, 0, none⟩), .slice A xs.length c, .slice A' xs.length c'] w fun e w' =>
      e = .returned (.tuple #[.slice (some ⟨w.heap.size, 0, none⟩) xs.length xs.length, .int .i64 0]) ∧ w'.heap[w.heap.size]? = some (.cells (u8s (List.zipWith (· ^^^ ·) xs ys)) 5 (0, 0)) ∧ Below w.heap.size w w' ∧ w.heap.size < w'.heap.size := by
  obtain ⟨f, hf⟩ : ∃ f : Nat → Nat, ∀ i, f i = (xs[i]?.getD 0) ^^^ (ys[i]?.getD 0) := ⟨_, fun _ => rfl⟩
  have hfull : fillr xs.length f xs.length = List.zipWith (· ^^^ ·) xs ys := by
    rw [fillr_full]
    apply List.ext_getElem?
    intro i
    rcases Nat.lt_or_ge i xs.length with h | h
    · have h' : i < ys.length := by omega
      simp [h, h', hf, List.getElem?_zipWith]
    · rw [List.getElem?_eq_none (by simpa using h), List.getElem?_eq_none (by simp [List.length_zipWith]; omega)]
  obtain ⟨len, hlen⟩ : ∃ n, n = xs.length := ⟨_, rfl⟩
  rw [← hlen] at hm hfull he
  rw [← hlen, ← hfull]
  have HL := Lib.hid hlen
  have HE := Lib.hid he
  have HF := Lib.hid hf
  clear hlen hf hfull he
  have hmk := make_bytes len f hm
  go_enter Try.func18, Try.ntmps18
  go_wp2
  clear hmk
  have hb0 : Below w.heap.size w (w.alloc (Obj.cells (u8s (fillr len f 0)) 5)) := (Below.refl _ w).alloc (Nat.le_refl _) _
  have hh0 := heap_alloc_new w (Obj.cells (u8s (fillr len f 0)) 5)
  have hs0 : w.heap.size < (w.alloc (Obj.cells (u8s (fillr len f 0)) 5)).heap.size := by simp
  go_loopw [20] (fun i wr => ∃ k : Nat, k ≤ len ∧ i = .int .i64 k ∧ wr.heap[w.heap.size]? = some (.cells (u8s (fillr len f k)) 5 (0, 0)) ∧ Below w.heap.size w wr ∧ w.heap.size < wr.heap.size) (fun i _ => len - (intOf i).toNat)
  case atStart => exact ⟨0, Nat.zero_le _, rfl, hh0, hb0, hs0⟩
  case round =>
    obtain ⟨k, hk, rfl, hh, hb, hs1⟩ := hrel
    by_cases hlt : k < len
    · obtain ⟨b, off, rfl, hc⟩ := (hr.below hb).form (by rw [← HL.out]; omega)
      obtain ⟨b', off', rfl, hc'⟩ := (hr'.below hb).form (by rw [HE.out]; omega)
      have hck := hc k (by rw [← HL.out]; omega)
      have hck' := hc' k (by rw [HE.out]; omega)
      have c1 : wr.cell? ⟨w.heap.size, k, none⟩ = some (.int .u8 ((fillr len f k)[k]?.getD 0 : Nat)) := by rw [cell_of_row _ _ _ _ _ _ hh, u8s_get _ _ (by rw [fillr_length]; exact hlt)]
      have f1 := frozen_of_row wr w.heap.size k _ _ hh
      have hx := u8_xor_nat (xs[k]?.getD 0) (ys[k]?.getD 0) (getD_lt hr.lt k) (getD_lt hr'.lt k)
      have HH := Lib.hid hh
      clear hh hc hc' hh0 hb0 hs0
      go_wp2
      go_region
      go_wp2
      go_roundw
      case rel => exact ⟨k + 1, by omega, by go_num, by rw [← HF.out, ← fillr_set _ _ _ hlt]; exact heap_setCell_same _ _ _ _ _ _ HH.out, (hb.setCell (p := ⟨w.heap.size, k, none⟩) (Nat.le_refl _) _).drew, by simpa [World.setCell] using hs1⟩
      case measure => simp [intOf]; omega
    · obtain rfl : k = len := by omega
      clear hh0 hb0 hs0
      have HH := Lib.hid hh
      clear hh
      go_wp2
      go_ret2
      exact ⟨rfl, HH.out, hb, hs1⟩

end Go.Proofs.Ytfmccbijkagfnaa
