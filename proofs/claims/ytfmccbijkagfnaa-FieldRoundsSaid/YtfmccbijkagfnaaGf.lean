/-
  The field of 256 elements as numbers: sums are exclusive ors, products come by a table of powers of 2; proved here: the laws of a field, and that the schoolbook product with the remainder by 285 is the same.
  No program is in sight here: plain numbers.
-/
namespace Go.Proofs.Ytfmccbijkagfnaa.Gf

def all (p : Nat → Bool) : Nat → Bool := Nat.rec true (fun k r => p k && r)
theorem all_of {p : Nat → Bool} : ∀ {n : Nat}, all p n = true → ∀ k, k < n → p k = true
  | 0, _, _, h => by omega
  | n + 1, h, k, hk => by
    have h' : (p n && all p n) = true := h
    simp only [Bool.and_eq_true] at h'
    rcases Nat.lt_or_ge k n with h1 | h1
    · exact all_of h'.2 k h1
    · obtain rfl : k = n := by omega
      exact h'.1

/-- the powers of 2, a byte each, 510 of them -/
def EX : Nat := 0x8e47add86c361b83cfe9fa7db0582c160b8bcbebfbf3f7f5f47a3d90482412098a45ac562b9bc3eff9f279b259a251a653a7dde070381c0e078dc86432198241ae57a5dc6e3795c46231964babdbe3fff1f67bb3d7e5fc7e3f91c663bfd1e673b7d5e472399249aa55a452299a4da8542a158442219e4fa9da6db85c2e1785cc663397c5ec763b93c7edf87c3e1f81ce67bdd068341a0d884422118643afd9e271b65ba3dfe1fe7fb1d66bbbd3e7fdf0783c1e0f89ca65bc5e2f99c261be5fa1de6fb9d269ba5da05028140a058c46239fc1ee77b5d46a35944a259c4e279dc06030180c06038fc9ea75b45a2d984c261387cde8743a1d80402010080402018e47add86c361b83cfe9fa7db0582c160b8bcbebfbf3f7f5f47a3d90482412098a45ac562b9bc3eff9f279b259a251a653a7dde070381c0e078dc86432198241ae57a5dc6e3795c46231964babdbe3fff1f67bb3d7e5fc7e3f91c663bfd1e673b7d5e472399249aa55a452299a4da8542a158442219e4fa9da6db85c2e1785cc663397c5ec763b93c7edf87c3e1f81ce67bdd068341a0d884422118643afd9e271b65ba3dfe1fe7fb1d66bbbd3e7fdf0783c1e0f89ca65bc5e2f99c261be5fa1de6fb9d269ba5da05028140a058c46239fc1ee77b5d46a35944a259c4e279dc06030180c06038fc9ea75b45a2d984c261387cde8743a1d8040201008040201
/-- which power each number is, ten bits each; of 0: 512 -/
def LG : Nat := 0x2bc58140a83a8f4358743a0ad39ce63a4d52b84f35c2c1d47a3ac163d40b144a02a49c2c05f164cb1683e330bb2c486180fb2a855274291483b2846c3d86f0307f3b04905cc41d8a41ecb7360430b41f288411b44714c390f0842785d0a8142acd3158f2184be3f0dc2c89721c90334cf2f09516cd10fc370b8890802336492110111f0b42e0261dc99294e3060fe314313b4de12867034632008c3dcc01c00715ca73cc732b0e53504e0ac790540a27c9b178ca0f4ba214fa150280e86b1b87e120c328cb61081e100460e08317013348f12f4db2588f338943403622022244102cc25260e23f430374661888b2fc06298723904d1e009268c92e4f909c6a1f4c22d41d11482048f03688e24c350840f090e10bc65228051c44c020c83e0693041c204ef23434038e01900412cc71a01b3b83337c033181a0c8020640100200
def ex (i : Nat) : Nat := (EX >>> (8 * i)) % 256
def lg (x : Nat) : Nat := (LG >>> (10 * x)) % 1024
/-- the product -/
def gm (a b : Nat) : Nat := ex (lg a + lg b)
/-- the inverse -/
def gi (a : Nat) : Nat := ex (255 - lg a)

/-- the schoolbook product, bit by bit -/
def clm : Nat → Nat → Nat → Nat → Nat
  | 0, n, _, _ => n
  | f + 1, n, x, y => clm f (n ^^^ (y % 2 * x)) (x * 2) (y / 2)
/-- what is left by 285 -/
def red : Nat → Nat → Nat
  | 0, n => n
  | f + 1, n => red f (n ^^^ (n / 2 ^ (f + 8) % 2 * (285 * 2 ^ f)))
def rm (a b : Nat) : Nat := red 8 (clm 8 0 a b)

theorem rm_all : all (fun a => all (fun b => Nat.beq (rm a b) (gm a b)) 256) 256 = true := by decide +kernel
theorem rm_eq {a b : Nat} (ha : a < 256) (hb : b < 256) : rm a b = gm a b :=
  Nat.eq_of_beq_eq_true (all_of (all_of rm_all a ha) b hb)

theorem ex_lt (i : Nat) : ex i < 256 := Nat.mod_lt _ (by decide)
theorem gm_lt (a b : Nat) : gm a b < 256 := ex_lt _
theorem gi_lt (a : Nat) : gi a < 256 := ex_lt _
theorem gm_comm (a b : Nat) : gm a b = gm b a := by unfold gm; rw [Nat.add_comm]

theorem lg_zero : lg 0 = 512 := by decide +kernel
theorem lg_all : all (fun a => Nat.beq a 0 || (Nat.ble (lg a) 254 && Nat.beq (ex (lg a)) a)) 256 = true := by decide +kernel
theorem ex_all : all (fun i => Nat.beq (ex i) (ex (i % 255)) && (Nat.beq (lg (ex i)) (i % 255) && Nat.ble 1 (ex i))) 510 = true := by decide +kernel
theorem ex_high_all : all (fun i => Nat.beq (ex (512 + i)) 0) 513 = true := by decide +kernel
theorem ex_high {i : Nat} (h : i < 513) : ex (512 + i) = 0 := Nat.eq_of_beq_eq_true (all_of ex_high_all i h)

theorem lg_lt {a : Nat} (ha : a < 256) (h0 : a ≠ 0) : lg a < 255 := by
  have h := all_of lg_all a ha
  simp only [Bool.or_eq_true, Bool.and_eq_true] at h
  rcases h with h | h
  · exact absurd (Nat.eq_of_beq_eq_true h) h0
  · have := Nat.le_of_ble_eq_true h.1; omega
theorem ex_lg {a : Nat} (ha : a < 256) (h0 : a ≠ 0) : ex (lg a) = a := by
  have h := all_of lg_all a ha
  simp only [Bool.or_eq_true, Bool.and_eq_true] at h
  rcases h with h | h
  · exact absurd (Nat.eq_of_beq_eq_true h) h0
  · exact Nat.eq_of_beq_eq_true h.2
theorem lg_le (a : Nat) (ha : a < 256) : lg a ≤ 512 := by
  by_cases h : a = 0
  · subst h; rw [lg_zero]; exact Nat.le_refl _
  · have := lg_lt ha h; omega
theorem ex_mod {i : Nat} (h : i < 510) : ex i = ex (i % 255) := by
  have h := all_of ex_all i h
  simp only [Bool.and_eq_true] at h
  exact Nat.eq_of_beq_eq_true h.1
theorem lg_ex {i : Nat} (h : i < 510) : lg (ex i) = i % 255 := by
  have h := all_of ex_all i h
  simp only [Bool.and_eq_true] at h
  exact Nat.eq_of_beq_eq_true h.2.1
theorem ex_ne {i : Nat} (h : i < 510) : ex i ≠ 0 := by
  have h := all_of ex_all i h
  simp only [Bool.and_eq_true] at h
  have := Nat.le_of_ble_eq_true h.2.2; omega

theorem gm_zero_left {b : Nat} (hb : b < 256) : gm 0 b = 0 := by
  unfold gm; rw [lg_zero]; exact ex_high (by have := lg_le b hb; omega)
theorem gm_zero_right {a : Nat} (ha : a < 256) : gm a 0 = 0 := by rw [gm_comm]; exact gm_zero_left ha
theorem gm_ne {a b : Nat} (ha : a < 256) (hb : b < 256) (h0 : a ≠ 0) (h1 : b ≠ 0) : gm a b ≠ 0 := by
  have := lg_lt ha h0; have := lg_lt hb h1
  exact ex_ne (by omega)
theorem lg_one : lg 1 = 0 := by decide +kernel
theorem gm_one {a : Nat} (ha : a < 256) : gm a 1 = a := by
  by_cases h : a = 0
  · subst h; exact gm_zero_left (by decide)
  · unfold gm; rw [lg_one]; exact ex_lg ha h
theorem one_gm {a : Nat} (ha : a < 256) : gm 1 a = a := by rw [gm_comm]; exact gm_one ha
theorem lg_gm {a b : Nat} (ha : a < 256) (hb : b < 256) (h0 : a ≠ 0) (h1 : b ≠ 0) : lg (gm a b) = (lg a + lg b) % 255 := by
  have := lg_lt ha h0; have := lg_lt hb h1
  exact lg_ex (by omega)
theorem gm_assoc {a b c : Nat} (ha : a < 256) (hb : b < 256) (hc : c < 256) : gm (gm a b) c = gm a (gm b c) := by
  by_cases h0 : a = 0
  · subst h0; rw [gm_zero_left hb, gm_zero_left hc, gm_zero_left (gm_lt _ _)]
  by_cases h1 : b = 0
  · subst h1; rw [gm_zero_right ha, gm_zero_left hc, gm_zero_right ha]
  by_cases h2 : c = 0
  · subst h2; rw [gm_zero_right (gm_lt _ _), gm_zero_right hb, gm_zero_right ha]
  have l0 := lg_lt ha h0
  have l1 := lg_lt hb h1
  have l2 := lg_lt hc h2
  have e1 : gm (gm a b) c = ex ((lg a + lg b) % 255 + lg c) := by
    rw [← lg_gm ha hb h0 h1]; rfl
  have e2 : gm a (gm b c) = ex (lg a + (lg b + lg c) % 255) := by
    rw [← lg_gm hb hc h1 h2]; rfl
  rw [e1, e2, ex_mod (i := (lg a + lg b) % 255 + lg c) (by omega), ex_mod (i := lg a + (lg b + lg c) % 255) (by omega)]
  congr 1
  omega

theorem gi_ne {a : Nat} (ha : a < 256) (h0 : a ≠ 0) : gi a ≠ 0 := by
  have := lg_lt ha h0
  exact ex_ne (by omega)
theorem ex_zero : ex 0 = 1 := by decide +kernel
theorem gm_gi {a : Nat} (ha : a < 256) (h0 : a ≠ 0) : gm a (gi a) = 1 := by
  have l0 := lg_lt ha h0
  unfold gm gi
  rw [lg_ex (by omega), ex_mod (by omega), show (lg a + (255 - lg a) % 255) % 255 = 0 from by omega]
  exact ex_zero
theorem gi_gm {a : Nat} (ha : a < 256) (h0 : a ≠ 0) : gm (gi a) a = 1 := by rw [gm_comm]; exact gm_gi ha h0
theorem gi_unique {a b : Nat} (ha : a < 256) (hb : b < 256) (h : gm a b = 1) : b = gi a := by
  have h0 : a ≠ 0 := by rintro rfl; rw [gm_zero_left hb] at h; omega
  have : gm (gi a) (gm a b) = gi a := by rw [h]; exact gm_one (gi_lt _)
  rw [← gm_assoc (gi_lt _) ha hb, gi_gm ha h0, one_gm hb] at this
  exact this

/-! ## sums and products -/
theorem xor_lt {a b : Nat} (ha : a < 256) (hb : b < 256) : a ^^^ b < 256 := Nat.xor_lt_two_pow (n := 8) ha hb
theorem xor_mod_two (a b : Nat) : (a ^^^ b) % 2 = (a % 2 + b % 2) % 2 := by
  have h := Nat.testBit_xor a b 0
  simp only [Nat.testBit_zero] at h
  have h1 : a % 2 = 0 ∨ a % 2 = 1 := by omega
  have h2 : b % 2 = 0 ∨ b % 2 = 1 := by omega
  have h3 : (a ^^^ b) % 2 = 0 ∨ (a ^^^ b) % 2 = 1 := by omega
  rcases h1 with h1 | h1 <;> rcases h2 with h2 | h2 <;> rcases h3 with h3 | h3 <;> simp [h1, h2, h3] at h ⊢
theorem xor_div_pow (a b k : Nat) : (a ^^^ b) / 2 ^ k = (a / 2 ^ k) ^^^ (b / 2 ^ k) := by
  rw [← Nat.shiftRight_eq_div_pow, ← Nat.shiftRight_eq_div_pow, ← Nat.shiftRight_eq_div_pow, Nat.shiftRight_xor_distrib]
theorem xor_mul_pow (a b k : Nat) : (a ^^^ b) * 2 ^ k = (a * 2 ^ k) ^^^ (b * 2 ^ k) := by
  rw [← Nat.shiftLeft_eq, ← Nat.shiftLeft_eq, ← Nat.shiftLeft_eq, Nat.shiftLeft_xor_distrib]
theorem bit_mul_xor (y a b : Nat) : y % 2 * (a ^^^ b) = (y % 2 * a) ^^^ (y % 2 * b) := by
  have h1 : y % 2 = 0 ∨ y % 2 = 1 := by omega
  rcases h1 with h1 | h1 <;> simp [h1]
theorem xor_bit_mul (a b k x : Nat) : (a ^^^ b) / 2 ^ k % 2 * x = (a / 2 ^ k % 2 * x) ^^^ (b / 2 ^ k % 2 * x) := by
  rw [xor_div_pow, xor_mod_two]
  have h1 : a / 2 ^ k % 2 = 0 ∨ a / 2 ^ k % 2 = 1 := by omega
  have h2 : b / 2 ^ k % 2 = 0 ∨ b / 2 ^ k % 2 = 1 := by omega
  rcases h1 with h1 | h1 <;> rcases h2 with h2 | h2 <;> simp [h1, h2]
theorem xor_swap (a b c d : Nat) : (a ^^^ b) ^^^ (c ^^^ d) = (a ^^^ c) ^^^ (b ^^^ d) := by
  rw [Nat.xor_assoc, Nat.xor_assoc, ← Nat.xor_assoc b c d, ← Nat.xor_assoc c b d, Nat.xor_comm b c]
theorem clm_xor : ∀ f n m x z y : Nat, clm f (n ^^^ m) (x ^^^ z) y = clm f n x y ^^^ clm f m z y
  | 0, _, _, _, _, _ => rfl
  | f + 1, n, m, x, z, y => by
    have e := xor_mul_pow x z 1
    simp only [Nat.pow_one] at e
    simp only [clm]
    rw [bit_mul_xor, xor_swap, e]
    exact clm_xor f _ _ _ _ _
theorem red_xor : ∀ f n m : Nat, red f (n ^^^ m) = red f n ^^^ red f m
  | 0, _, _ => rfl
  | f + 1, n, m => by
    simp only [red]
    rw [xor_bit_mul, xor_swap]
    exact red_xor f _ _
theorem rm_xor (a b c : Nat) : rm (a ^^^ b) c = rm a c ^^^ rm b c := by
  unfold rm
  have := clm_xor 8 0 0 a b c
  rw [Nat.xor_self] at this
  rw [this, red_xor]
theorem xor_gm {a b c : Nat} (ha : a < 256) (hb : b < 256) (hc : c < 256) : gm (a ^^^ b) c = gm a c ^^^ gm b c := by
  rw [← rm_eq (xor_lt ha hb) hc, ← rm_eq ha hc, ← rm_eq hb hc, rm_xor]
theorem gm_xor {a b c : Nat} (ha : a < 256) (hb : b < 256) (hc : c < 256) : gm a (b ^^^ c) = gm a b ^^^ gm a c := by
  rw [gm_comm, xor_gm hb hc ha, gm_comm b, gm_comm c]
theorem gm_eq_zero {a b : Nat} (ha : a < 256) (hb : b < 256) (h : gm a b = 0) : a = 0 ∨ b = 0 := by
  by_cases h0 : a = 0
  · exact .inl h0
  by_cases h1 : b = 0
  · exact .inr h1
  exact absurd h (gm_ne ha hb h0 h1)

/-! ## quotients and powers -/
theorem div_eq {a b : Nat} (ha : a < 256) (hb : b < 256) (h0 : a ≠ 0) (h1 : b ≠ 0) : ex (lg a + 255 - lg b) = gm a (gi b) := by
  have l0 := lg_lt ha h0
  have l1 := lg_lt hb h1
  unfold gm gi
  rw [lg_ex (by omega), ex_mod (i := lg a + 255 - lg b) (by omega), ex_mod (i := lg a + (255 - lg b) % 255) (by omega)]
  congr 1
  omega
def gp (a : Nat) : Nat → Nat
  | 0 => 1
  | n + 1 => gm (gp a n) a
theorem gp_lt (a : Nat) : ∀ n, gp a n < 256
  | 0 => by show 1 < 256; decide
  | _ + 1 => gm_lt _ _
theorem gp_eq {a : Nat} (ha : a < 256) (h0 : a ≠ 0) : ∀ n, gp a n = ex (lg a * n % 255)
  | 0 => by rw [Nat.mul_zero]; exact ex_zero.symm
  | n + 1 => by
    have l0 := lg_lt ha h0
    have hm : lg a * n % 255 < 255 := Nat.mod_lt _ (by decide)
    show gm (gp a n) a = _
    rw [gp_eq ha h0 n]
    unfold gm
    rw [lg_ex (by omega), ex_mod (by omega), Nat.mul_succ]
    congr 1
    omega
theorem gp_mod {a : Nat} (ha : a < 256) (h0 : a ≠ 0) (n : Nat) : gp a n = ex (lg a * (n % 255) % 255) := by
  rw [gp_eq ha h0]
  congr 1
  exact (Nat.mul_mod_mod (lg a) n 255).symm
theorem gp_zero {n : Nat} (h : n ≠ 0) : gp 0 n = 0 := by
  obtain ⟨m, rfl⟩ := Nat.exists_eq_succ_of_ne_zero h
  exact gm_zero_right (gp_lt _ _)
end Go.Proofs.Ytfmccbijkagfnaa.Gf
