/-
  Contracts of the package field's inner product, over a field object in memory.
-/
import Derived.Test.YtfmccbijkagfnaaBytes
import Derived.Test.YtfmccbijkagfnaaGf
namespace Go.Proofs.Ytfmccbijkagfnaa
open Go.RowKit

/-- block g holds a field: the powers of 2, then which power each number is -/
structure IsField (w : World) (g : Nat) : Prop where
  pow : ∀ i : Nat, i < 510 → w.cell? ⟨g, i, none⟩ = some (.int .u8 (Gf.ex i : Nat))
  log : ∀ x : Nat, x < 256 → x ≠ 0 → w.cell? ⟨g, 510 + x, none⟩ = some (.int .i64 (Gf.lg x : Nat))

theorem IsField.drewN {w : World} {g : Nat} (h : IsField w g) (n : Nat) : IsField (w.drewN n) g := ⟨h.pow, h.log⟩
theorem IsField.below {w w' : World} {g B : Nat} (h : IsField w g) (hb : Below B w w') (hg : g < B) : IsField w' g :=
  ⟨fun i hi => (hb.cell (p := ⟨g, i, none⟩) hg).trans (h.pow i hi), fun i hi h0 => (hb.cell (p := ⟨g, 510 + i, none⟩) hg).trans (h.log i hi h0)⟩

theorem mul_zero (g : Nat) (a b : Nat) (w : World) (h : a = 0 ∨ b = 0) (ha : a < 256) (hb : b < 256) :
    Calls Try.prog 19 #[.pointer (some ⟨g, 0, none⟩), .int .u8 a, .int .u8 b] w fun e w' => e = .returned (.int .u8 0) ∧ ∃ n, w.drewN n = w' := by
  by_cases h0 : a = 0
  · subst h0
    go_enter Try.func19, Try.ntmps19
    go_wp2
    go_ret
    exact ⟨rfl, 0, rfl⟩
  · obtain rfl : b = 0 := by omega
    go_enter Try.func19, Try.ntmps19
    go_wp2
    go_ret
    exact ⟨rfl, 0, rfl⟩

theorem mul_pos (g : Nat) (a b : Nat) (w : World) (hw : IsField w g) (ha : a < 256) (hb : b < 256) (h0 : a ≠ 0) (h1 : b ≠ 0) :
    Calls Try.prog 19 #[.pointer (some ⟨g, 0, none⟩), .int .u8 a, .int .u8 b] w fun e w' => e = .returned (.int .u8 (Gf.gm a b : Nat)) ∧ ∃ n, w.drewN n = w' := by
  have l0 := Gf.lg_lt ha h0
  have l1 := Gf.lg_lt hb h1
  have c0 := hw.log a ha h0
  have c1 := hw.log b hb h1
  have c2 := hw.pow (Gf.lg a + Gf.lg b) (by omega)
  have e0 : ((a : Int) == 0) = false := by simp; omega
  have e1 : ((b : Int) == 0) = false := by simp; omega
  clear hw
  go_enter Try.func19, Try.ntmps19
  go_wp2
  go_quiet (fail)
  go_wp2
  go_ret
  exact ⟨rfl, nq, rfl⟩

theorem mul_any (g : Nat) (a b : Nat) (w : World) (hw : IsField w g) (ha : a < 256) (hb : b < 256) :
    Calls Try.prog 19 #[.pointer (some ⟨g, 0, none⟩), .int .u8 a, .int .u8 b] w fun e w' => e = .returned (.int .u8 (Gf.gm a b : Nat)) ∧ ∃ n, w.drewN n = w' := by
  by_cases h : a = 0 ∨ b = 0
  · have e : Gf.gm a b = 0 := by
      rcases h with rfl | rfl
      · exact Gf.gm_zero_left hb
      · exact Gf.gm_zero_right ha
    rw [e]
    exact mul_zero g a b w h ha hb
  · exact mul_pos g a b w hw ha hb (fun e => h (.inl e)) (fun e => h (.inr e))

def gml (xs : List Nat) : Nat := xs.foldl Gf.gm 1
theorem gml_lt (xs : List Nat) : gml xs < 256 := by
  unfold gml
  have : ∀ (l : List Nat) (a : Nat), a < 256 → l.foldl Gf.gm a < 256 := by
    intro l
    induction l with
    | nil => intro a h; exact h
    | cons x l ih => intro a _; exact ih _ (Gf.gm_lt _ _)
  exact this xs 1 (by decide)
theorem gml_snoc (xs : List Nat) (k : Nat) (h : k < xs.length) : gml (xs.take (k + 1)) = Gf.gm (gml (xs.take k)) (xs[k]?.getD 0) := by
  unfold gml
  rw [List.take_succ_eq_append_getElem h, List.foldl_append, List.getElem?_eq_getElem h]; rfl

set_option maxHeartbeats 400000 in
theorem Mul_any (g : Nat) (A : Option Addr) (c : Nat) (xs : List Nat) (w : World) (hw : IsField w g) (hr : RowU8 w A xs) (hm : xs.length ≤ 9223372036854775807) :
    Calls Try.prog 11 #[.pointer (some ⟨g, 0, none⟩), .slice A xs.length c] w fun e w' => e = .returned (.int .u8 (gml xs : Nat)) ∧ ∃ n, w.drewN n = w' := by
  obtain ⟨len, hlen⟩ : ∃ n, n = xs.length := ⟨_, rfl⟩
  rw [← hlen] at hm
  rw [← hlen]
  have HL := Lib.hid hlen
  clear hlen
  go_enter Try.func11, Try.ntmps11
  go_wp2
  go_loopw [5, 10] (fun o i wr => ∃ k n : Nat, k ≤ len ∧ i = .int .i64 k ∧ o = .int .u8 (gml (xs.take k) : Nat) ∧ wr = w.drewN n) (fun _ i _ => len - (intOf i).toNat)
  case atStart => exact ⟨0, 0, Nat.zero_le _, rfl, rfl, rfl⟩
  case round =>
    obtain ⟨k, n, hk, rfl, rfl, rfl⟩ := hrel
    by_cases hlt : k < len
    · obtain ⟨b, off, rfl, hc⟩ := hr.form (by rw [← HL.out]; omega)
      have hck := hc k (by rw [← HL.out]; omega)
      have hs := gml_snoc xs k (by rw [← HL.out]; omega)
      have HS := Lib.hid hs
      clear hs hc
      go_wp2_with (go_at_call 19; refine (mul_any g _ _ _ (hw.drewN n) (gml_lt _) (getD_lt hr.lt k)).mono ?_; rintro e w' ⟨rfl, m, rfl⟩)
      go_roundw
      case rel => exact ⟨k + 1, n + m, by omega, by go_num, by rw [HS.out], by simp⟩
      case measure => simp [intOf]; omega
    · go_wp2
      go_ret
      exact ⟨by rw [List.take_of_length_le (by rw [← HL.out]; omega)]; rfl, n, rfl⟩

end Go.Proofs.Ytfmccbijkagfnaa
