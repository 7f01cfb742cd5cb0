/-
  Contracts of the package field's sums, quotients and powers, and of the reference's product and inverse.
-/
import Derived.Test.YtfmccbijkagfnaaFieldMul
namespace Go.Proofs.Ytfmccbijkagfnaa
open Go.RowKit

theorem ofInt_i64 (a : Nat) (ha : a < 9223372036854775808) : (BitVec.ofInt 64 (a : Int)).toNat = a := by
  rw [BitVec.ofInt_natCast, BitVec.toNat_ofNat]; exact Nat.mod_eq_of_lt (by omega)
theorem i64_xor_nat (a b : Nat) (ha : a < 9223372036854775808) (hb : b < 9223372036854775808) : bits .xor .i64 (a : Int) (b : Int) = ((a ^^^ b : Nat) : Int) := by
  have hx : a ^^^ b < 2 ^ 63 := Nat.xor_lt_two_pow (by omega) (by omega)
  show IntKind.i64.wrap ((BitVec.ofInt 64 (a : Int) ^^^ BitVec.ofInt 64 (b : Int)).toNat : Int) = _
  rw [BitVec.toNat_xor, ofInt_i64 a ha, ofInt_i64 b hb, IntKind.wrap_i64]
  omega

def xorl (xs : List Nat) : Nat := xs.foldl (· ^^^ ·) 0
theorem xorl_lt {xs : List Nat} (h : ∀ x ∈ xs, x < 256) : xorl xs < 256 := by
  unfold xorl
  have : ∀ (l : List Nat) (a : Nat), (∀ x ∈ l, x < 256) → a < 256 → l.foldl (· ^^^ ·) a < 256 := by
    intro l
    induction l with
    | nil => intro a _ h; exact h
    | cons x l ih => intro a hl h; exact ih _ (fun y hy => hl y (List.mem_cons_of_mem _ hy)) (Gf.xor_lt h (hl x (List.mem_cons_self ..)))
  exact this xs 0 h (by decide)
theorem xorl_snoc (xs : List Nat) (k : Nat) (h : k < xs.length) : xorl (xs.take (k + 1)) = xorl (xs.take k) ^^^ (xs[k]?.getD 0) := by
  unfold xorl
  rw [List.take_succ_eq_append_getElem h, List.foldl_append, List.getElem?_eq_getElem h]; rfl

set_option maxHeartbeats 400000 in
theorem Add_any (p : Value) (A : Option Addr) (c : Nat) (xs : List Nat) (w : World) (hr : RowU8 w A xs) (hm : xs.length ≤ 9223372036854775807) :
    Calls Try.prog 12 #[p, .slice A xs.length c] w fun e w' => e = .returned (.int .u8 (xorl xs : Nat)) ∧ w = w' := by
  obtain ⟨len, hlen⟩ : ∃ n, n = xs.length := ⟨_, rfl⟩
  rw [← hlen] at hm
  rw [← hlen]
  have HL := Lib.hid hlen
  clear hlen
  go_enter Try.func12, Try.ntmps12
  go_wp2
  go_loop [5, 10] (fun o i => ∃ k : Nat, k ≤ len ∧ i = .int .i64 k ∧ o = .int .u8 (xorl (xs.take k) : Nat)) (fun _ i => len - (intOf i).toNat)
  case atStart => exact ⟨0, Nat.zero_le _, rfl, rfl⟩
  case round =>
    obtain ⟨k, hk, rfl, rfl⟩ := hrel
    by_cases hlt : k < len
    · obtain ⟨b, off, rfl, hc⟩ := hr.form (by rw [← HL.out]; omega)
      have hck := hc k (by rw [← HL.out]; omega)
      have hs := xorl_snoc xs k (by rw [← HL.out]; omega)
      have hx := u8_xor_nat (xorl (xs.take k)) (xs[k]?.getD 0) (xorl_lt (fun x hx => hr.lt x (List.mem_of_mem_take hx))) (getD_lt hr.lt k)
      have HS := Lib.hid hs
      clear hs hc
      go_wp2
      go_round
      case rel => exact ⟨k + 1, by omega, by go_num, by rw [HS.out]⟩
      case measure => simp [intOf]; omega
    · go_wp2
      go_ret
      exact ⟨by rw [List.take_of_length_le (by rw [← HL.out]; omega)]; rfl, rfl⟩

/-! ## quotients -/
theorem Div_zero (p : Value) (a : Nat) (w : World) :
    Calls Try.prog 15 #[p, .int .u8 a, .int .u8 0] w fun e w' => e = .returned (.tuple #[.int .u8 0, .int .i64 3]) ∧ ∃ n, w.drewN n = w' := by
  go_enter Try.func15, Try.ntmps15
  go_wp2
  go_ret2
  exact ⟨rfl, 0, rfl⟩

theorem Div_ok (g : Nat) (a b : Nat) (w : World) (hw : IsField w g) (ha : a < 256) (hb : b < 256) (h1 : b ≠ 0) :
    Calls Try.prog 15 #[.pointer (some ⟨g, 0, none⟩), .int .u8 a, .int .u8 b] w fun e w' => e = .returned (.tuple #[.int .u8 (Gf.gm a (Gf.gi b) : Nat), .int .i64 0]) ∧ ∃ n, w.drewN n = w' := by
  have e1 : ((b : Int) == 0) = false := by simp; omega
  by_cases h0 : a = 0
  · subst h0
    rw [Gf.gm_zero_left (Gf.gi_lt _)]
    go_enter Try.func15, Try.ntmps15
    go_wp2
    go_ret2
    exact ⟨rfl, 0, rfl⟩
  · have l0 := Gf.lg_lt ha h0
    have l1 := Gf.lg_lt hb h1
    have c0 := hw.log a ha h0
    have c1 := hw.log b hb h1
    have c2 := hw.pow (Gf.lg a + 255 - Gf.lg b) (by omega)
    have e0 : ((a : Int) == 0) = false := by simp; omega
    have E := Gf.div_eq ha hb h0 h1
    clear hw
    rw [← E]
    clear E
    go_enter Try.func15, Try.ntmps15
    go_wp2
    go_quiet (fail)
    go_wp2
    go_ret2
    exact ⟨rfl, nq, rfl⟩

/-! ## powers -/
theorem Power_neg (p : Value) (a : Nat) (n : Int) (w : World) (hn : n < 0) :
    Calls Try.prog 13 #[p, .int .u8 a, .int .i64 n] w fun e w' => e = .returned (.tuple #[.int .u8 0, .int .i64 1]) ∧ ∃ n, w.drewN n = w' := by
  go_enter Try.func13, Try.ntmps13
  go_wp2
  go_ret2
  exact ⟨rfl, 0, rfl⟩

theorem Power_ok (g : Nat) (a : Nat) (n : Nat) (w : World) (hw : IsField w g) (ha : a < 256) (hn : n ≤ 9223372036854775807) :
    Calls Try.prog 13 #[.pointer (some ⟨g, 0, none⟩), .int .u8 a, .int .i64 n] w fun e w' => e = .returned (.tuple #[.int .u8 (Gf.gp a n : Nat), .int .i64 0]) ∧ ∃ n, w.drewN n = w' := by
  by_cases hz : n = 0
  · subst hz
    show Calls _ _ _ _ fun e w' => e = .returned (.tuple #[.int .u8 (1 : Nat), .int .i64 0]) ∧ ∃ n, w.drewN n = w'
    go_enter Try.func13, Try.ntmps13
    go_wp2
    go_ret2
    exact ⟨rfl, 0, rfl⟩
  · have ez : ((n : Int) == 0) = false := by simp; omega
    by_cases h0 : a = 0
    · subst h0
      rw [Gf.gp_zero hz]
      go_enter Try.func13, Try.ntmps13
      go_wp2
      go_ret2
      exact ⟨rfl, 0, rfl⟩
    · have l0 := Gf.lg_lt ha h0
      have c0 := hw.log a ha h0
      have hb : Gf.lg a * (n % 255) ≤ 254 * 254 := Nat.mul_le_mul (by omega) (by omega)
      have E := Gf.gp_mod ha h0 n
      have hP : (Gf.lg a : Int) * ((n : Int) % 255) = ((Gf.lg a * (n % 255) : Nat) : Int) := by rw [Int.natCast_mul]; rfl
      rw [E]
      clear E
      generalize Gf.lg a * (n % 255) = P at hP hb ⊢
      have c2 := hw.pow (P % 255) (by omega)
      have e0 : ((a : Int) == 0) = false := by simp; omega
      clear hw
      go_enter Try.func13, Try.ntmps13
      go_wp2
      go_quiet (fail)
      go_wp2
      go_ret2
      exact ⟨rfl, nq, rfl⟩

end Go.Proofs.Ytfmccbijkagfnaa
