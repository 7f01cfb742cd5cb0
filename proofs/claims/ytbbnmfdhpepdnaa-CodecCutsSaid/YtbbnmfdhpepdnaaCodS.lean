/-
  The same item?
-/
import Derived.Test.YtbbnmfdhpepdnaaCodX
namespace Go.Proofs.Ytbbnmfdhpepdnaa
open Go.RowKit

theorem u8_lt_of {w : World} {A : Option Addr} {xs : List Nat} (h : RowU8 w A xs) : ∀ x ∈ xs, x < 256 := h.lt
theorem toList_inj {s t : ByteArray} (h : s.toList = t.toList) : s = t := by
  rw [ByteArray.toList_eq, ByteArray.toList_eq] at h
  cases s; cases t
  congr 1
  exact Array.toList_inj.1 h
theorem str_beq {b1 b2 : List Nat} (h1 : ∀ x ∈ b1, x < 256) (h2 : ∀ x ∈ b2, x < 256) : ((bstr b1).toList == (bstr b2).toList) = decide (b1 = b2) := by
  rw [Bool.eq_iff_iff]
  simp only [beq_iff_eq, decide_eq_true_eq]
  exact ⟨fun h => bstr_inj h1 h2 (toList_inj h), fun e => by rw [e]⟩
set_option maxRecDepth 100000 in
set_option maxHeartbeats 1000000 in
theorem same_any (k1 k2 n1 n2 : Int) (A1 A2 : Option Addr) (c1 c2 : Nat) (b1 b2 : List Nat) (w : World) (h1 : RowU8 w A1 b1) (h2 : RowU8 w A2 b2) (R : Bool) (hR : decide (k1 = k2 ∧ n1 = n2 ∧ b1 = b2) = R) :
    Calls Try.prog 16 #[.agg #[.int .i64 k1, .int .i64 n1, .slice A1 b1.length c1], .agg #[.int .i64 k2, .int .i64 n2, .slice A2 b2.length c2]] w fun e w' => e = .returned (.bool R) ∧ Below w.heap.size w w' := by
  obtain ⟨W, hW⟩ : ∃ W, (w.alloc (.cells #[.int .i64 k1, .int .i64 n1, .slice A1 b1.length c1] 33)).alloc (.cells #[.int .i64 k2, .int .i64 n2, .slice A2 b2.length c2] 33) = W := ⟨_, rfl⟩
  have hb : Below w.heap.size w W := by rw [← hW]; exact ((Below.refl _ w).alloc (Nat.le_refl _) _).alloc (by simp) _
  have hx1 : W.heap[w.heap.size]? = some (.cells #[.int .i64 k1, .int .i64 n1, .slice A1 b1.length c1] 33 (0, 0)) := by rw [← hW]; exact heap_alloc2_old w _ _
  have hx2 : W.heap[w.heap.size + 1]? = some (.cells #[.int .i64 k2, .int .i64 n2, .slice A2 b2.length c2] 33 (0, 0)) := by rw [← hW]; exact heap_alloc2_new w _ _
  have hs1 := str_of W A1 b1 (h1.below hb) c1
  have hs2 := str_of W A2 b2 (h2.below hb) c2
  have HS := Lib.hid (str_beq h1.lt h2.lt)
  have a0 := cell_of_row W w.heap.size 0 _ _ _ hx1
  have a1 := cell_of_row W w.heap.size 1 _ _ _ hx1
  have a2 := cell_of_row W w.heap.size 2 _ _ _ hx1
  have d0 := cell_of_row W (w.heap.size + 1) 0 _ _ _ hx2
  have d1 := cell_of_row W (w.heap.size + 1) 1 _ _ _ hx2
  have d2 := cell_of_row W (w.heap.size + 1) 2 _ _ _ hx2
  have HB := Lib.hid hb
  have HR := Lib.hid hR
  clear hb hx1 hx2 h1 h2 hR
  generalize bstr b1 = s1 at *
  generalize bstr b2 = s2 at *
  generalize b1.length = l1 at *
  generalize b2.length = l2 at *
  by_cases hk : k1 = k2
  · have tk : (k1 == k2) = true := by simpa using hk
    by_cases hn : n1 = n2
    · have tn : (n1 == n2) = true := by simpa using hn
      have HR2 : Hid ((s1.toList == s2.toList) = R) := Lib.hid (by rw [HS.out, ← HR.out]; simp [hk, hn])
      clear hk hn
      go_enter Try.func16, Try.ntmps16
      go_wp2
      go_ret
      exact ⟨by rw [← HR2.out]; simp, HB.out⟩
    · have tn : (n1 == n2) = false := by simpa using hn
      obtain rfl : R = false := by rw [← HR.out]; simp [hn]
      clear hk hn
      go_enter Try.func16, Try.ntmps16
      go_wp2
      go_ret
      exact ⟨rfl, HB.out⟩
  · have tk : (k1 == k2) = false := by simpa using hk
    obtain rfl : R = false := by rw [← HR.out]; simp [hk]
    clear hk
    go_enter Try.func16, Try.ntmps16
    go_wp2
    go_ret
    exact ⟨rfl, HB.out⟩

end Go.Proofs.Ytbbnmfdhpepdnaa
