/-
  Contracts of the reference's product and inverse in the field of 256 elements.
-/
import Derived.Test.YtfmccbijkagfnaaFieldFns
namespace Go.Proofs.Ytfmccbijkagfnaa
open Go.RowKit

theorem clm_zero : ∀ f n x : Nat, Gf.clm f n x 0 = n
  | 0, _, _ => rfl
  | f + 1, n, x => by
    simp only [Gf.clm, Nat.zero_mod, Nat.zero_mul, Nat.xor_zero, Nat.zero_div]
    exact clm_zero f n (x * 2)

theorem clm_odd {f n x y : Nat} (h : y % 2 = 1) : Gf.clm (f + 1) n x y = Gf.clm f (n ^^^ x) (x * 2) (y / 2) := by simp [Gf.clm, h]
theorem clm_even {f n x y : Nat} (h : y % 2 = 0) : Gf.clm (f + 1) n x y = Gf.clm f n (x * 2) (y / 2) := by simp [Gf.clm, h]
theorem red_odd {f n B : Nat} (hB : B = 2 ^ (f + 8)) (h : n / B % 2 = 1) : Gf.red (f + 1) n = Gf.red f (n ^^^ (285 * (B / 256))) := by
  subst hB
  simp only [Gf.red, h, Nat.one_mul]
  rw [Nat.pow_add, show (2 : Nat) ^ 8 = 256 from rfl, Nat.mul_div_cancel _ (by decide)]
theorem red_even {f n B : Nat} (hB : B = 2 ^ (f + 8)) (h : n / B % 2 = 0) : Gf.red (f + 1) n = Gf.red f n := by
  subst hB
  simp only [Gf.red, h, Nat.zero_mul, Nat.xor_zero]

def Clm (f n x y C : Nat) : Prop := Gf.clm f n x y = C
def Red (f n B R : Nat) : Prop := Gf.red f n = R ∧ B = 2 ^ (f + 7)

theorem pow_bound {f : Nat} (h : f ≤ 8) : 2 ^ (f + 7) ≤ 32768 := Nat.pow_le_pow_right (n := 2) (by decide) (show f + 7 ≤ 15 by omega)
theorem Red.le {f n B R : Nat} (h : Red f n B R) (hf : f ≤ 8) : B ≤ 32768 := by rw [h.2]; exact pow_bound hf
theorem Red.pos {f n B R : Nat} (h : Red f n B R) : 1 ≤ B := by rw [h.2]; exact Nat.one_le_two_pow
theorem Red.zero {n B R : Nat} (h : Red 0 n B R) : B = 128 ∧ n = R := ⟨h.2, h.1⟩
theorem Red.high {f n B R : Nat} (h : Red (f + 1) n B R) : 256 ≤ B := by
  rw [h.2, show f + 1 + 7 = 8 + f by omega, Nat.pow_add]; have : 1 ≤ 2 ^ f := Nat.one_le_two_pow; omega
theorem Red.step1 {f n B R : Nat} (h : Red (f + 1) n B R) (ho : n / B % 2 = 1) : Red f (n ^^^ (285 * (B / 256))) (B / 2) R := by
  refine ⟨?_, ?_⟩
  · rw [← red_odd (f := f) (by rw [h.2]) ho]; exact h.1
  · rw [h.2, show f + 1 + 7 = f + 7 + 1 by omega, Nat.pow_succ]; omega
theorem Red.step0 {f n B R : Nat} (h : Red (f + 1) n B R) (ho : n / B % 2 = 0) : Red f n (B / 2) R := by
  refine ⟨?_, ?_⟩
  · rw [← red_even (f := f) (by rw [h.2]) ho]; exact h.1
  · rw [h.2, show f + 1 + 7 = f + 7 + 1 by omega, Nat.pow_succ]; omega

set_option maxRecDepth 100000 in
set_option maxHeartbeats 800000 in
theorem rMul_any (a b : Nat) (w : World) (ha : a < 256) (hb : b < 256) :
    Calls Try.prog 14 #[.int .u8 a, .int .u8 b] w fun e w' => e = .returned (.int .u8 (Gf.gm a b : Nat)) ∧ w = w' := by
  have hR : Gf.red 8 (Gf.clm 8 0 a b) = Gf.gm a b := Gf.rm_eq ha hb
  have hRlt : Gf.gm a b < 256 := Gf.gm_lt a b
  generalize Gf.gm a b = R at hR hRlt ⊢
  obtain ⟨C, hC⟩ : ∃ C, Clm 8 0 a b C := ⟨_, rfl⟩
  have hR' : Gf.red 8 C = R := by rw [← hR]; unfold Clm at hC; rw [hC]
  have HR := Lib.hid hR'
  clear hR hR'
  have HC := Lib.hid hC
  clear hC
  go_enter Try.func14, Try.ntmps14
  go_wp2
  go_loop [5, 6, 7] (fun un ux uy => ∃ f n x y : Nat, f ≤ 8 ∧ Clm f n x y C ∧ n < 65536 ∧ x * 2 ^ f < 65536 ∧ y < 2 ^ f ∧ un = .int .i64 n ∧ ux = .int .i64 x ∧ uy = .int .i64 y) (fun _ _ uy => (intOf uy).toNat)
  case atStart => exact ⟨8, 0, a, b, by omega, HC.out, by omega, by omega, by omega, rfl, rfl, rfl⟩
  case round =>
    obtain ⟨f, n, x, y, hf, hcl, hn, hx, hy, rfl, rfl, rfl⟩ := hrel
    have HCl := Lib.hid hcl
    clear hcl
    by_cases hy0 : 0 < y
    · obtain ⟨f, rfl⟩ : ∃ m, f = m + 1 := ⟨f - 1, by rcases f with _ | f; (· simp at hy; omega); rfl⟩
      have hx1 : x * 2 * 2 ^ f < 65536 := by rw [Nat.pow_succ] at hx; rw [Nat.mul_assoc, Nat.mul_comm 2]; exact hx
      have hx2 : x < 65536 := Nat.lt_of_le_of_lt (Nat.le_mul_of_pos_right _ (Nat.two_pow_pos _)) hx
      have hx3 : x * 2 < 65536 := Nat.lt_of_le_of_lt (Nat.le_mul_of_pos_right _ (Nat.two_pow_pos _)) hx1
      have hy1 : y / 2 < 2 ^ f := by rw [Nat.pow_succ] at hy; omega
      have hy2 : y ≤ 256 := by have := Nat.pow_le_pow_right (n := 2) (by decide) hf; omega
      have hxx : n ^^^ x < 65536 := Nat.xor_lt_two_pow (n := 16) hn hx2
      rcases (show y % 2 = 1 ∨ y % 2 = 0 by omega) with hp | hp
      · have HN : Hid (Clm f (n ^^^ x) (x * 2) (y / 2) C) := Lib.hid (by unfold Clm; rw [← clm_odd hp]; exact HCl.out)
        have hxor := i64_xor_nat n x (by omega) (by omega)
        have ht : (((y : Int) % 2) == 1) = true := by simp; omega
        clear hp hx hy
        go_wp2
        go_round
        case rel => exact ⟨f, n ^^^ x, x * 2, y / 2, by omega, HN.out, hxx, hx1, hy1, rfl, by go_num, by go_num⟩
        case measure => simp [intOf]; omega
      · have HN : Hid (Clm f n (x * 2) (y / 2) C) := Lib.hid (by unfold Clm; rw [← clm_even hp]; exact HCl.out)
        have ht : (((y : Int) % 2) == 1) = false := by simp; omega
        clear hp hx hy
        go_wp2
        go_round
        case rel => exact ⟨f, n, x * 2, y / 2, by omega, HN.out, hn, hx1, hy1, rfl, by go_num, by go_num⟩
        case measure => simp [intOf]; omega
    · obtain rfl : y = 0 := by omega
      have hnC : n = C := by have := HCl.out; unfold Clm at this; rw [clm_zero] at this; exact this
      subst hnC
      clear hx hy hy0
      go_wp2
      go_loop [5, 8] (fun un ub => ∃ f m B : Nat, f ≤ 8 ∧ Red f m B R ∧ m < 65536 ∧ un = .int .i64 m ∧ ub = .int .i64 B) (fun _ ub => (intOf ub).toNat)
      case atStart => exact ⟨8, n, 32768, by omega, ⟨HR.out, rfl⟩, hn, rfl, rfl⟩
      case round =>
        obtain ⟨f, m, B, hf, hred, hm, rfl, rfl⟩ := hrel
        have hB1 := hred.pos
        have hB2 := hred.le hf
        have HRd := Lib.hid hred
        clear hred
        rcases f with _ | f
        · obtain ⟨hB, hmR⟩ := HRd.out.zero
          subst hmR
          have hBl : B < 256 := by omega
          clear hB
          go_wp2
          go_ret
          exact ⟨by rfl, rfl⟩
        · have hB3 := HRd.out.high
          have hd0 : 0 ≤ (m : Int) / (B : Int) := Int.natCast_nonneg (m / B)
          have hd1 : (m : Int) / (B : Int) ≤ 65535 := by have : m / B ≤ m := Nat.div_le_self m B; exact Int.ofNat_le.2 (show m / B ≤ 65535 by omega)
          rcases (show m / B % 2 = 1 ∨ m / B % 2 = 0 by omega) with hp | hp
          · have HN : Hid (Red f (m ^^^ (285 * (B / 256))) (B / 2) R) := Lib.hid (HRd.out.step1 hp)
            have hq : B / 256 ≤ 128 := by omega
            have hxor : bits .xor .i64 (m : Int) (285 * ((B : Int) / 256)) = ((m ^^^ (285 * (B / 256)) : Nat) : Int) := i64_xor_nat m (285 * (B / 256)) (by omega) (by omega)
            have ht : (((m : Int) / (B : Int) % 2) == 1) = true := by rw [beq_iff_eq]; exact_mod_cast hp
            have hxx : m ^^^ (285 * (B / 256)) < 65536 := Nat.xor_lt_two_pow (n := 16) hm (by omega)
            clear hp
            go_wp2
            go_round
            case rel => exact ⟨f, _, B / 2, by omega, HN.out, hxx, rfl, by go_num⟩
            case measure => simp [intOf]; omega
          · have HN : Hid (Red f m (B / 2) R) := Lib.hid (HRd.out.step0 hp)
            have ht : (((m : Int) / (B : Int) % 2) == 1) = false := by rw [beq_eq_false_iff_ne]; intro h; have : m / B % 2 = 1 := by exact_mod_cast h
                                                                       omega
            clear hp
            go_wp2
            go_round
            case rel => exact ⟨f, m, B / 2, by omega, HN.out, hm, rfl, by go_num⟩
            case measure => simp [intOf]; omega

/-- the inverse of a number; of 0: 0 -/
def ginv (a : Nat) : Nat := if a = 0 then 0 else Gf.gi a
theorem ginv_lt (a : Nat) : ginv a < 256 := by unfold ginv; split; (· decide); exact Gf.gi_lt _

set_option maxRecDepth 100000 in
set_option maxHeartbeats 800000 in
theorem rInverse_any (a : Nat) (w : World) (ha : a < 256) :
    Calls Try.prog 16 #[.int .u8 a] w fun e w' => e = .returned (.int .u8 (ginv a : Nat)) ∧ w = w' := by
  go_enter Try.func16, Try.ntmps16
  go_wp2
  go_loop [3] (fun i => ∃ k : Nat, 1 ≤ k ∧ k ≤ 256 ∧ (∀ j, 1 ≤ j → j < k → Gf.gm a j ≠ 1) ∧ i = .int .i64 k) (fun i => 256 - (intOf i).toNat)
  case atStart => exact ⟨1, by omega, by omega, fun j h1 h2 => by omega, rfl⟩
  case round =>
    obtain ⟨k, h1, h2, hno, rfl⟩ := hrel
    have HNo := Lib.hid hno
    clear hno
    by_cases hlt : k < 256
    · by_cases hg : Gf.gm a k = 1
      · have hk : k = Gf.gi a := Gf.gi_unique ha hlt hg
        have h0 : a ≠ 0 := by rintro rfl; rw [Gf.gm_zero_left hlt] at hg; omega
        have HE := Lib.hid (show ginv a = k by unfold ginv; rw [if_neg h0, ← hk])
        have ht : (((Gf.gm a k : Nat) : Int) == 1) = true := by rw [hg]; rfl
        clear hk hg
        go_wp2_with (go_at_call 14; refine (rMul_any _ _ _ ha hlt).mono ?_; rintro e w' ⟨rfl, rfl⟩)
        go_ret
        exact ⟨by rw [HE.out]; rfl, rfl⟩
      · have ht : (((Gf.gm a k : Nat) : Int) == 1) = false := by rw [beq_eq_false_iff_ne]; intro h; exact hg (by exact_mod_cast h)
        have HN : Hid (∀ j, 1 ≤ j → j < k + 1 → Gf.gm a j ≠ 1) := Lib.hid (fun j j1 j2 => by
          rcases Nat.lt_or_ge j k with h | h
          · exact HNo.out j j1 h
          · obtain rfl : j = k := by omega
            exact hg)
        clear hg
        go_wp2_with (go_at_call 14; refine (rMul_any _ _ _ ha hlt).mono ?_; rintro e w' ⟨rfl, rfl⟩)
        go_round
        case rel => exact ⟨k + 1, by omega, by omega, HN.out, by go_num⟩
        case measure => simp [intOf]; omega
    · obtain rfl : k = 256 := by omega
      have h0 : a = 0 := by
        by_cases h0 : a = 0
        · exact h0
        · have := Gf.gi_ne ha h0
          exact absurd (Gf.gm_gi ha h0) (HNo.out _ (by omega) (Gf.gi_lt _))
      subst h0
      go_wp2
      go_ret
      exact ⟨rfl, rfl⟩

end Go.Proofs.Ytfmccbijkagfnaa
