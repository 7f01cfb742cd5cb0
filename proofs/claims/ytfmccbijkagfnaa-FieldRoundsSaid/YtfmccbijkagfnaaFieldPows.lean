/-
  The walks of the laws FieldPowers, FieldProducts and FieldInverses: each returns true, and nothing that lay in memory has turned.
-/
import Derived.Test.YtfmccbijkagfnaaFieldLawsW
namespace Go.Proofs.Ytfmccbijkagfnaa
open Go.RowKit

theorem Div_ctx {w0 w : World} {g : Nat} (a b R : Nat) (h : Ctx w0 g w) (ha : a < 256) (hb : b < 256) (h1 : b ≠ 0) (hR : Gf.gm a (Gf.gi b) = R) :
    Calls Try.prog 15 #[.pointer (some ⟨g, 0, none⟩), .int .u8 a, .int .u8 b] w fun e w' => e = .returned (.tuple #[.int .u8 (R : Nat), .int .i64 0]) ∧ Ctx w0 g w' :=
  (Div_ok g a b w h.field ha hb h1).mono fun _ _ ⟨he, n, hw⟩ => ⟨by rw [he, hR], by rw [← hw]; exact h.drewN n⟩
theorem Div0_ctx {w0 w : World} {g : Nat} (a : Nat) (h : Ctx w0 g w) :
    Calls Try.prog 15 #[.pointer (some ⟨g, 0, none⟩), .int .u8 a, .int .u8 0] w fun e w' => e = .returned (.tuple #[.int .u8 0, .int .i64 3]) ∧ Ctx w0 g w' :=
  (Div_zero _ a w).mono fun _ _ ⟨he, n, hw⟩ => ⟨he, by rw [← hw]; exact h.drewN n⟩
theorem Power_ctx {w0 w : World} {g : Nat} (a n R : Nat) (h : Ctx w0 g w) (ha : a < 256) (hn : n ≤ 9223372036854775807) (hR : Gf.gp a n = R) :
    Calls Try.prog 13 #[.pointer (some ⟨g, 0, none⟩), .int .u8 a, .int .i64 n] w fun e w' => e = .returned (.tuple #[.int .u8 (R : Nat), .int .i64 0]) ∧ Ctx w0 g w' :=
  (Power_ok g a n w h.field ha hn).mono fun _ _ ⟨he, n, hw⟩ => ⟨by rw [he, hR], by rw [← hw]; exact h.drewN n⟩
theorem PowerNeg_ctx {w0 w : World} {g : Nat} (a : Nat) (n : Int) (h : Ctx w0 g w) (hn : n < 0) :
    Calls Try.prog 13 #[.pointer (some ⟨g, 0, none⟩), .int .u8 a, .int .i64 n] w fun e w' => e = .returned (.tuple #[.int .u8 0, .int .i64 1]) ∧ Ctx w0 g w' :=
  (Power_neg _ a n w hn).mono fun _ _ ⟨he, n, hw⟩ => ⟨he, by rw [← hw]; exact h.drewN n⟩
theorem rMul_R (a b R : Nat) (w : World) (ha : a < 256) (hb : b < 256) (hR : Gf.gm a b = R) :
    Calls Try.prog 14 #[.int .u8 a, .int .u8 b] w fun e w' => e = .returned (.int .u8 (R : Nat)) ∧ w = w' :=
  (rMul_any a b w ha hb).mono fun _ _ ⟨he, hw⟩ => ⟨by rw [he, hR], hw⟩
theorem rInverse_R (a R : Nat) (w : World) (ha : a < 256) (hR : ginv a = R) :
    Calls Try.prog 16 #[.int .u8 a] w fun e w' => e = .returned (.int .u8 (R : Nat)) ∧ w = w' :=
  (rInverse_any a w ha).mono fun _ _ ⟨he, hw⟩ => ⟨by rw [he, hR], hw⟩

set_option maxRecDepth 100000 in
set_option maxHeartbeats 1000000 in
theorem FieldPowers_neg (a : Nat) (n : Int) (w : World) (hn : n < 0) :
    Calls Try.prog 4 #[.int .u8 a, .int .i64 n] w fun e w' => e = .returned (.bool true) ∧ Below w.heap.size w w' := by
  go_enter Try.func4, Try.ntmps4
  go_wp2_with (fail)
  refine (awake_any w).mono ?_
  rintro e w1 ⟨rfl, h1⟩
  go_wp2_with (fail)
  refine (New_ctx w w1 h1).mono ?_
  rintro e w2 ⟨g, rfl, h2⟩
  go_wp2_with (fail)
  refine (PowerNeg_ctx a n h2 hn).mono ?_
  rintro e w3 ⟨rfl, h3⟩
  go_wp2
  go_ret
  exact ⟨rfl, h3.below⟩

/-- how many factors the law multiplies -/
def cnt (n : Nat) : Nat := n % 255 + 255 * min (n / 255) 1
theorem gp_cnt {a : Nat} (ha : a < 256) (n : Nat) : Gf.gp a (cnt n) = Gf.gp a n := by
  rcases Nat.lt_or_ge n 255 with h | h
  · have : cnt n = n := by unfold cnt; rw [Nat.div_eq_of_lt h, Nat.mod_eq_of_lt h]; rfl
    rw [this]
  · have e : cnt n = n % 255 + 255 := by unfold cnt; rw [Nat.min_eq_right (by omega)]
    by_cases h0 : a = 0
    · subst h0; rw [Gf.gp_zero (by omega), Gf.gp_zero (by omega)]
    · rw [Gf.gp_mod ha h0, Gf.gp_mod ha h0 n, e]; congr 3; omega
theorem cnt_small {n : Nat} (h : n < 255) : cnt n = n := by unfold cnt; rw [Nat.div_eq_of_lt h, Nat.mod_eq_of_lt h]; rfl
theorem cnt_big {n : Nat} (h : 255 ≤ n) : cnt n = n % 255 + 255 := by unfold cnt; rw [Nat.min_eq_right (by omega)]
theorem cnt_lt (n : Nat) : cnt n < 510 := by
  rcases Nat.lt_or_ge n 255 with h | h
  · rw [cnt_small h]; omega
  · rw [cnt_big h]; omega

set_option maxRecDepth 100000 in
set_option maxHeartbeats 1000000 in
theorem FieldPowers_pos (a n : Nat) (w : World) (ha : a < 256) (hn : n ≤ 9223372036854775807) :
    Calls Try.prog 4 #[.int .u8 a, .int .i64 n] w fun e w' => e = .returned (.bool true) ∧ Below w.heap.size w w' := by
  obtain ⟨P, hP⟩ : ∃ P, Gf.gp a n = P := ⟨_, rfl⟩
  have hPc : Gf.gp a (cnt n) = P := by rw [gp_cnt ha]; exact hP
  have HP := Lib.hid (And.intro hP hPc)
  clear hP hPc
  have HP1 := Lib.hid (cnt_lt n)
  rcases Nat.lt_or_ge n 255 with hs | hs
  · have hm1 : (n : Int) / 255 = 0 := by omega
    have hneg : decide ((n : Int) < 0) = false := by simp
    have hm2 : (n : Int) % 255 = (cnt n : Nat) := by rw [cnt_small hs]; omega
    have hCl := HP1.out
    generalize cnt n = C at *
    go_enter Try.func4, Try.ntmps4
    go_wp2_with (fail)
    refine (awake_any w).mono ?_
    rintro e w1 ⟨rfl, h1⟩
    go_wp2_with (fail)
    refine (New_ctx w w1 h1).mono ?_
    rintro e w2 ⟨g, rfl, h2⟩
    go_wp2_with (fail)
    refine (Power_ctx a n P h2 ha hn HP.out.1).mono ?_
    rintro e w3 ⟨rfl, h3⟩
    go_wp2
    rw [hm2]
    clear hm2
    go_loop [8, 34] (fun o i => ∃ k : Nat, k ≤ C ∧ i = .int .i64 k ∧ o = .int .u8 (Gf.gp a k : Nat)) (fun _ i => C - (intOf i).toNat)
    case atStart => exact ⟨0, Nat.zero_le _, rfl, rfl⟩
    case round =>
      obtain ⟨k, hk, rfl, rfl⟩ := hrel
      by_cases hlt : k < C
      · have HS := Lib.hid (show Gf.gp a (k + 1) = Gf.gm (Gf.gp a k) a from rfl)
        go_wp2_with (fail)
        refine (rMul_any _ _ _ (Gf.gp_lt a k) ha).mono ?_
        rintro e w' ⟨rfl, rfl⟩
        go_wp2
        go_round
        case rel => exact ⟨k + 1, by omega, by go_num, by rw [HS.out]⟩
        case measure => simp [intOf]; omega
      · obtain rfl : k = C := by omega
        rw [HP.out.2]
        go_wp2
        go_ret
        exact ⟨rfl, h3.below⟩
  · have hm1 : 1 ≤ (n : Int) / 255 := by omega
    have hneg : decide ((n : Int) < 0) = false := by simp
    have hm2 : (n : Int) % 255 + 255 = (cnt n : Nat) := by rw [cnt_big hs]; omega
    have hCl := HP1.out
    generalize cnt n = C at *
    go_enter Try.func4, Try.ntmps4
    go_wp2_with (fail)
    refine (awake_any w).mono ?_
    rintro e w1 ⟨rfl, h1⟩
    go_wp2_with (fail)
    refine (New_ctx w w1 h1).mono ?_
    rintro e w2 ⟨g, rfl, h2⟩
    go_wp2_with (fail)
    refine (Power_ctx a n P h2 ha hn HP.out.1).mono ?_
    rintro e w3 ⟨rfl, h3⟩
    go_wp2
    all_goals
      go_loop [8, 34] (fun o i => ∃ k : Nat, k ≤ C ∧ i = .int .i64 k ∧ o = .int .u8 (Gf.gp a k : Nat)) (fun _ i => C - (intOf i).toNat)
      case atStart => exact ⟨0, Nat.zero_le _, rfl, rfl⟩
      case round =>
        obtain ⟨k, hk, rfl, rfl⟩ := hrel
        by_cases hlt : k < C
        · have HS := Lib.hid (show Gf.gp a (k + 1) = Gf.gm (Gf.gp a k) a from rfl)
          go_wp2_with (fail)
          refine (rMul_any _ _ _ (Gf.gp_lt a k) ha).mono ?_
          rintro e w' ⟨rfl, rfl⟩
          go_wp2
          go_round
          case rel => exact ⟨k + 1, by omega, by go_num, by rw [HS.out]⟩
          case measure => simp [intOf]; omega
        · obtain rfl : k = C := by omega
          rw [HP.out.2]
          go_wp2
          go_ret
          exact ⟨rfl, h3.below⟩

theorem Mul0 {w0 w : World} {g : Nat} (h : Ctx w0 g w) :
    Calls Try.prog 11 #[.pointer (some ⟨g, 0, none⟩), .slice none 0 0] w fun e w' => e = .returned (.int .u8 1) ∧ Ctx w0 g w' :=
  (Mul_any g none 0 [] w h.field (row_nil w none) (by simp)).mono fun _ _ ⟨he, n, hw⟩ => ⟨he, by rw [← hw]; exact h.drewN n⟩
theorem Add0 {w0 w : World} {g : Nat} (h : Ctx w0 g w) :
    Calls Try.prog 12 #[.pointer (some ⟨g, 0, none⟩), .slice none 0 0] w fun e w' => e = .returned (.int .u8 0) ∧ Ctx w0 g w' :=
  (Add_any _ none 0 [] w (row_nil w none) (by simp)).mono fun _ _ ⟨he, hw⟩ => ⟨he, by rw [← hw]; exact h⟩

set_option maxRecDepth 100000 in
set_option maxHeartbeats 1000000 in
theorem FieldProducts_walk (a b : Nat) (w : World) (ha : a < 256) (hb : b < 256) :
    Calls Try.prog 5 #[.int .u8 a, .int .u8 b] w fun e w' => e = .returned (.bool true) ∧ Below w.heap.size w w' := by
  obtain ⟨M, hM⟩ : ∃ r, Gf.gm a b = r := ⟨_, rfl⟩
  obtain ⟨X, hX⟩ : ∃ r, a ^^^ b = r := ⟨_, rfl⟩
  have hxor : bits .xor .u8 (a : Int) (b : Int) = (X : Nat) := by rw [← hX]; exact u8_xor_nat a b ha hb
  by_cases h0 : b = 0
  · subst h0
    have hxor' : bits .xor .u8 (a : Int) 0 = (X : Nat) := hxor
    clear hxor
    have E := Lib.hid (And.intro hM hX)
    clear hM hX
    go_enter Try.func5, Try.ntmps5
    go_wp2_with (fail)
    refine (awake_any w).mono ?_
    rintro e w1 ⟨rfl, h1⟩
    go_wp2_with (fail)
    refine (New_ctx w w1 h1).mono ?_
    rintro e w2 ⟨g, rfl, h2⟩
    go_wp2_with (fail)
    refine (Mul2 a 0 M h2 ha hb E.out.1).mono ?_
    rintro e w3 ⟨rfl, h3⟩
    go_wp2_with (fail)
    refine (rMul_R a 0 M _ ha hb E.out.1).mono ?_
    rintro e w' ⟨rfl, rfl⟩
    go_wp2_with (fail)
    refine (Add2 a 0 X h3 ha hb E.out.2).mono ?_
    rintro e w4 ⟨rfl, h4⟩
    go_wp2_with (fail)
    refine (Mul0 h4).mono ?_
    rintro e w5 ⟨rfl, h5⟩
    go_wp2_with (fail)
    refine (Add0 h5).mono ?_
    rintro e w6 ⟨rfl, h6⟩
    go_wp2_with (fail)
    refine (Mul1 a a h6 ha rfl).mono ?_
    rintro e w7 ⟨rfl, h7⟩
    go_wp2_with (fail)
    refine (Add1 a a h7 ha rfl).mono ?_
    rintro e w8 ⟨rfl, h8⟩
    go_wp2_with (fail)
    refine (Div0_ctx a h8).mono ?_
    rintro e w9 ⟨rfl, h9⟩
    go_wp2
    go_ret
    exact ⟨rfl, h9.below⟩
  · obtain ⟨Q, hQ⟩ : ∃ r, Gf.gm a (Gf.gi b) = r := ⟨_, rfl⟩
    obtain ⟨I, hI⟩ : ∃ r, ginv b = r := ⟨_, rfl⟩
    have hI' : I = Gf.gi b := by rw [← hI]; unfold ginv; rw [if_neg h0]
    have bI : I < 256 := by rw [hI']; exact Gf.gi_lt _
    have bQ : Q < 256 := by rw [← hQ]; exact Gf.gm_lt _ _
    have hQI : Gf.gm a I = Q := by rw [hI']; exact hQ
    have hQb : Gf.gm Q b = a := by rw [← hQ, Gf.gm_assoc ha (Gf.gi_lt _) hb, Gf.gi_gm hb h0, Gf.gm_one ha]
    have e1 : ((b : Int) == 0) = false := by simp; omega
    have E := Lib.hid (And.intro hM (And.intro hX (And.intro hQ (And.intro hI (And.intro hQI hQb)))))
    clear hM hX hQ hI hI' hQI hQb
    go_enter Try.func5, Try.ntmps5
    go_wp2_with (fail)
    refine (awake_any w).mono ?_
    rintro e w1 ⟨rfl, h1⟩
    go_wp2_with (fail)
    refine (New_ctx w w1 h1).mono ?_
    rintro e w2 ⟨g, rfl, h2⟩
    go_wp2_with (fail)
    refine (Mul2 a b M h2 ha hb E.out.1).mono ?_
    rintro e w3 ⟨rfl, h3⟩
    go_wp2_with (fail)
    refine (rMul_R a b M _ ha hb E.out.1).mono ?_
    rintro e w' ⟨rfl, rfl⟩
    go_wp2_with (fail)
    refine (Add2 a b X h3 ha hb E.out.2.1).mono ?_
    rintro e w4 ⟨rfl, h4⟩
    go_wp2_with (fail)
    refine (Mul0 h4).mono ?_
    rintro e w5 ⟨rfl, h5⟩
    go_wp2_with (fail)
    refine (Add0 h5).mono ?_
    rintro e w6 ⟨rfl, h6⟩
    go_wp2_with (fail)
    refine (Mul1 a a h6 ha rfl).mono ?_
    rintro e w7 ⟨rfl, h7⟩
    go_wp2_with (fail)
    refine (Add1 a a h7 ha rfl).mono ?_
    rintro e w8 ⟨rfl, h8⟩
    go_wp2_with (fail)
    refine (Div_ctx a b Q h8 ha hb h0 E.out.2.2.1).mono ?_
    rintro e w9 ⟨rfl, h9⟩
    go_wp2_with (fail)
    refine (rInverse_R b I _ hb E.out.2.2.2.1).mono ?_
    rintro e w' ⟨rfl, rfl⟩
    go_wp2_with (fail)
    refine (rMul_R a I Q _ ha bI E.out.2.2.2.2.1).mono ?_
    rintro e w' ⟨rfl, rfl⟩
    go_wp2_with (fail)
    refine (Mul2 Q b a h9 bQ hb E.out.2.2.2.2.2).mono ?_
    rintro e w10 ⟨rfl, h10⟩
    go_wp2
    go_ret
    exact ⟨rfl, h10.below⟩

theorem gp_gi {a : Nat} (ha : a < 256) (h0 : a ≠ 0) : ∀ n, Gf.gm (Gf.gp a n) (Gf.gp (Gf.gi a) n) = 1
  | 0 => by show Gf.gm 1 1 = 1; exact Gf.gm_one (by decide)
  | n + 1 => by
    show Gf.gm (Gf.gm (Gf.gp a n) a) (Gf.gm (Gf.gp (Gf.gi a) n) (Gf.gi a)) = 1
    have p := Gf.gp_lt a n
    have q := Gf.gp_lt (Gf.gi a) n
    have i := Gf.gi_lt a
    rw [Gf.gm_comm (Gf.gp (Gf.gi a) n), Gf.gm_assoc p ha (Gf.gm_lt _ _), ← Gf.gm_assoc ha i q, Gf.gm_gi ha h0, Gf.one_gm q]
    exact gp_gi ha h0 n

set_option maxRecDepth 100000 in
set_option maxHeartbeats 1000000 in
theorem FieldInverses_walk (a n : Nat) (w : World) (ha : a < 256) (hn : n < 65536) :
    Calls Try.prog 7 #[.int .u8 a, .int .u16 n] w fun e w' => e = .returned (.bool true) ∧ Below w.heap.size w w' := by
  by_cases h0 : a = 0
  · subst h0
    go_enter Try.func7, Try.ntmps7
    go_wp2_with (fail)
    refine (awake_any w).mono ?_
    rintro e w1 ⟨rfl, h1⟩
    go_wp2_with (fail)
    refine (awake_any w1).mono ?_
    rintro e w2 ⟨rfl, h2⟩
    go_wp2
    go_ret
    exact ⟨rfl, h1.trans (h2.mono h1.size)⟩
  · obtain ⟨I, hI⟩ : ∃ r, ginv a = r := ⟨_, rfl⟩
    have hI' : I = Gf.gi a := by rw [← hI]; unfold ginv; rw [if_neg h0]
    have bI : I < 256 := by rw [hI']; exact Gf.gi_lt _
    have hd : Gf.gm 1 (Gf.gi a) = I := by rw [hI', Gf.one_gm (Gf.gi_lt _)]
    have h255 : Gf.gp a 255 = 1 := by rw [Gf.gp_mod ha h0]; exact Gf.ex_zero
    obtain ⟨q, hq⟩ : ∃ r, Gf.gp a n = r := ⟨_, rfl⟩
    obtain ⟨r, hr⟩ : ∃ s, Gf.gp I n = s := ⟨_, rfl⟩
    have bq : q < 256 := by rw [← hq]; exact Gf.gp_lt _ _
    have br : r < 256 := by rw [← hr]; exact Gf.gp_lt _ _
    have hqr : Gf.gm q r = 1 := by rw [← hq, ← hr, hI']; exact gp_gi ha h0 n
    have e0 : ((a : Int) == 0) = false := by simp; omega
    have hI0 : I ≠ 0 := by rw [hI']; exact Gf.gi_ne ha h0
    have e1 : ((I : Int) != 0) = true := by simp; omega
    have E := Lib.hid (And.intro hI (And.intro hd (And.intro h255 (And.intro hq (And.intro hr hqr)))))
    clear hI hI' hd h255 hq hr hqr hI0
    go_enter Try.func7, Try.ntmps7
    go_wp2_with (fail)
    refine (awake_any w).mono ?_
    rintro e w1 ⟨rfl, h1⟩
    go_wp2_with (fail)
    refine (New_ctx w w1 h1).mono ?_
    rintro e w2 ⟨g, rfl, h2⟩
    go_wp2_with (fail)
    refine (Div_ctx 1 a I h2 (by omega) ha h0 E.out.2.1).mono ?_
    rintro e w3 ⟨rfl, h3⟩
    go_wp2_with (fail)
    refine (Power_ctx a 255 1 h3 ha (by omega) E.out.2.2.1).mono ?_
    rintro e w4 ⟨rfl, h4⟩
    go_wp2_with (fail)
    refine (Power_ctx a n q h4 ha (by omega) E.out.2.2.2.1).mono ?_
    rintro e w5 ⟨rfl, h5⟩
    go_wp2_with (fail)
    refine (Power_ctx I n r h5 bI (by omega) E.out.2.2.2.2.1).mono ?_
    rintro e w6 ⟨rfl, h6⟩
    go_wp2_with (fail)
    refine (rInverse_R a I _ ha E.out.1).mono ?_
    rintro e w' ⟨rfl, rfl⟩
    go_wp2_with (fail)
    refine (Mul2 q r 1 h6 bq br E.out.2.2.2.2.2).mono ?_
    rintro e w7 ⟨rfl, h7⟩
    go_wp2
    go_ret
    exact ⟨rfl, h7.below⟩

theorem FieldPowers_walk (a : Nat) (n : Int) (w : World) (ha : a < 256) (hn : -9223372036854775808 ≤ n ∧ n ≤ 9223372036854775807) :
    Calls Try.prog 4 #[.int .u8 a, .int .i64 n] w fun e w' => e = .returned (.bool true) ∧ Below w.heap.size w w' := by
  rcases Int.lt_or_le n 0 with h | h
  · exact FieldPowers_neg a n w h
  · obtain ⟨m, rfl⟩ := Int.eq_ofNat_of_zero_le h
    exact FieldPowers_pos a m w ha (by omega)

end Go.Proofs.Ytfmccbijkagfnaa
