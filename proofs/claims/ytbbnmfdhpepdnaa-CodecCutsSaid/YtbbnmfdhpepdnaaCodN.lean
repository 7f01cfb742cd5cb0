/-
  The next number.
-/
import Derived.Test.YtbbnmfdhpepdnaaCodR
import Derived.Deep.LoopGhost
import Derived.IntWalk
import Derived.Laws.Shifts
namespace Go.Proofs.Ytbbnmfdhpepdnaa
open Go.RowKit

/-- a number, read byte by byte: its value and what is left, or why there is none -/
def numT (most : Int) : Nat → Nat → List Nat → Except Nat (Nat × List Nat)
  | _, _, [] => .error 6
  | i, n, c :: r => if 9 ≤ i ∨ (c = 0 ∧ 0 < i) then .error 6 else if 128 ≤ c then numT most (i + 1) (n + c % 128 * 128 ^ i) r else if most < ((n + c % 128 * 128 ^ i : Nat) : Int) then .error 14 else .ok (n + c % 128 * 128 ^ i, r)

theorem numT_cons (most : Int) (i n c : Nat) (r : List Nat) : numT most i n (c :: r) = if 9 ≤ i ∨ (c = 0 ∧ 0 < i) then .error 6 else if 128 ≤ c then numT most (i + 1) (n + c % 128 * 128 ^ i) r else if most < ((n + c % 128 * 128 ^ i : Nat) : Int) then .error 14 else .ok (n + c % 128 * 128 ^ i, r) := rfl

section
variable {P : Program}
theorem wpList_val {ops : Array Oper} {rest : List Oper} {o : Oper} {a : Act} {w : World} {Q : Exit → Act → World → Prop} (hgd : o.guard = none) (v : Value) (h : (execOp a.eval o).run P w = .ok (.value v) w)
    (hk : wpList P ops Q rest (a.put o.dst v) w) : wpList P ops Q (o :: rest) a w :=
  wpList_plain hgd fun K hK => by unfold Oper.wp; rw [h]; exact hK _ _ hk
theorem exec_shl {ρ : Operand → Value} {o : Oper} (t ty : TypeId) (x y : Operand) (ho : o.op = .binOp .shl t x y ty) (a b : Int) (hx : ρ x = .int .i64 a) (hy : ρ y = .int .i64 b) (h0 : 0 ≤ b) (v : Int) (hv : IntKind.i64.wrap (a * 2 ^ min b.toNat 64) = v) (w : World) :
    (execOp ρ o).run P w = .ok (.value (.int .i64 v)) w := by
  have h64 : IntKind.bits .i64 = 64 := rfl
  unfold execOp
  rw [ho]
  simp only [hx, hy, binOp_shl, eqGuard_shl, shift_shl_any _ _ _ _ h0, h64, hv, Sem.run_bind, Sem.run_pure, Result.andThen_ok]
end
theorem i64_or_nat (a b : Nat) (ha : a < 9223372036854775808) (hb : b < 9223372036854775808) : bits .or .i64 (a : Int) (b : Int) = ((a ||| b : Nat) : Int) := by
  have hx : a ||| b < 2 ^ 63 := Nat.or_lt_two_pow (by omega) (by omega)
  have h1 : (BitVec.ofInt 64 (a : Int)).toNat = a := by rw [BitVec.ofInt_natCast, BitVec.toNat_ofNat]; exact Nat.mod_eq_of_lt (by omega)
  have h2 : (BitVec.ofInt 64 (b : Int)).toNat = b := by rw [BitVec.ofInt_natCast, BitVec.toNat_ofNat]; exact Nat.mod_eq_of_lt (by omega)
  show IntKind.i64.wrap ((BitVec.ofInt 64 (a : Int) ||| BitVec.ofInt 64 (b : Int)).toNat : Int) = _
  rw [BitVec.toNat_or, h1, h2, IntKind.wrap_i64]
  omega
theorem pow7 (k : Nat) : (128 : Nat) ^ k = 2 ^ (7 * k) := by rw [Nat.pow_mul]
def lim63 : Nat := 9223372036854775808
theorem pow_lim {k : Nat} (hk : k ≤ 9) : (128 : Nat) ^ k ≤ lim63 := by
  have h4 : (128 : Nat) ^ k ≤ 128 ^ 9 := Nat.pow_le_pow_right (by decide) hk
  have h5 : (128 : Nat) ^ 9 = lim63 := by decide
  rwa [h5] at h4
/-- the next seven bits, put in place -/
theorem seven_in {acc x k : Nat} (_ : k ≤ 8) (hacc : acc < 128 ^ k) : (acc ||| x % 128 * 128 ^ k) = acc + x % 128 * 128 ^ k ∧ acc + x % 128 * 128 ^ k < 128 ^ (k + 1) := by
  have h1 : x % 128 < 128 := Nat.mod_lt _ (by decide)
  have h2 : (x % 128 + 1) * 128 ^ k ≤ 128 * 128 ^ k := Nat.mul_le_mul_right _ (by omega)
  have h3 : (128 : Nat) ^ (k + 1) = 128 * 128 ^ k := by rw [Nat.pow_succ, Nat.mul_comm]
  refine ⟨?_, by rw [Nat.add_mul] at h2; omega⟩
  have h6 : x % 128 * 128 ^ k = (x % 128) <<< (7 * k) := by rw [Nat.shiftLeft_eq, pow7]
  rw [h6, Nat.or_comm, ← Nat.shiftLeft_add_eq_or_of_lt (by rw [← pow7]; exact hacc), Nat.add_comm]
theorem shl_in {x k : Nat} (hk : k ≤ 8) : wrap64 (((x % 128 : Nat) : Int) * 2 ^ (7 * k)) = ((x % 128 * 128 ^ k : Nat) : Int) := by
  have h := Nat.lt_of_lt_of_le (seven_in (acc := 0) (x := x) hk (Nat.pow_pos (by decide))).2 (pow_lim (show k + 1 ≤ 9 by omega))
  have e : ((x % 128 : Nat) : Int) * 2 ^ (7 * k) = ((x % 128 * 128 ^ k : Nat) : Int) := by rw [pow7]; push_cast; rfl
  rw [e]
  rw [Nat.zero_add] at h
  generalize x % 128 * 128 ^ k = y at *
  unfold lim63 at h
  exact IntWalk.wrap64_in _ ⟨by omega, by omega⟩
theorem or_in {acc x k : Nat} (hk : k ≤ 8) (hacc : acc < 128 ^ k) : bits .or .i64 (acc : Int) ((x % 128 * 128 ^ k : Nat) : Int) = ((acc + x % 128 * 128 ^ k : Nat) : Int) := by
  have h := seven_in (x := x) hk hacc
  have h1 := Nat.lt_of_lt_of_le h.2 (pow_lim (show k + 1 ≤ 9 by omega))
  rw [← h.1]
  refine i64_or_nat _ _ ?_ ?_
  · unfold lim63 at h1; omega
  · unfold lim63 at h1; omega

/-- what Number leaves -/
def NumPost (g : Nat) (A0 : Option Addr) (w : World) (r : Except Nat (Nat × List Nat)) (e : Ending) (w' : World) : Prop :=
  Kp (fun k => k ≠ g) w w' ∧ match r with
    | .ok (v, ys) => e = .returned (.int .i64 (v : Int)) ∧ ∃ A c, Rd w' g A c ys ∧ SameB A0 A
    | .error code => e = .panicked (thrown g (code : Int))

set_option maxRecDepth 100000 in
set_option maxHeartbeats 1000000 in
theorem Number_any (g : Nat) (A : Option Addr) (c : Nat) (xs : List Nat) (most : Int) (w : World) (h : Rd w g A c xs) :
    Calls Try.prog 12 #[.pointer (some ⟨g, 0, none⟩), .int .i64 most] w (NumPost g A w (numT most 0 0 xs)) := by
  have HR := Lib.hid h
  clear h
  go_enter Try.func12, Try.ntmps12
  go_wp2_with (fail)
  go_loopg [5, 6, 7] xs.length (fun gk s5 s6 s7 wx => ∃ (k acc : Nat) (A' : Option Addr) (c' : Nat), k + gk = xs.length ∧ k ≤ 9 ∧ acc < 128 ^ k ∧ s5 = .int .i64 (acc : Int) ∧ (∃ s : Nat, s = 7 * k ∧ s6 = .int .i64 (s : Int)) ∧ Rd wx g A' c' (xs.drop k) ∧ Kp (fun k => k ≠ g) w wx ∧ SameB A A' ∧ numT most k acc (xs.drop k) = numT most 0 0 xs)
  case atStart => exact ⟨0, 0, A, c, by omega, by omega, by decide, rfl, ⟨0, rfl, rfl⟩, HR.out, Kp.refl _ _, SameB.refl _, rfl⟩
  case round =>
    obtain ⟨k, acc, A', c', hkg, hk9, hacc, rfl, ⟨s, hs, rfl⟩, hrd, hkp, hsb, hnum⟩ := hrel
    have HSB := Lib.hid hsb
    clear hsb
    have HS := Lib.hid hs
    clear hs
    cases gk with
    | zero =>
      have hnil : xs.drop k = [] := List.drop_eq_nil_of_le (by omega)
      rw [hnil] at hrd hnum
      have HK := Lib.hid (And.intro hkp hnum)
      clear hkp hnum hnil
      go_wp2_with (fail)
      refine (take_no g A' c' [] 1 _ hrd (by simp) (by omega)).mono ?_
      rintro e w' ⟨rfl, rfl⟩
      go_wp2
      refine ⟨rfl, ?_⟩
      rw [← HK.out.2]
      exact ⟨HK.out.1, rfl⟩
    | succ gk =>
      have hkl : k < xs.length := by omega
      obtain ⟨x, hx⟩ : ∃ x, xs.drop k = x :: xs.drop (k + 1) := ⟨xs[k], List.drop_eq_getElem_cons hkl⟩
      rw [hx] at hrd hnum
      have hxlt : x < 256 := hrd.row.lt x (by simp)
      obtain ⟨b, off, cur, T, fr, rfl, hb, hcur, -⟩ := hrd.row.blk (by simp)
      have hbg : b ≠ g := hrd.apart _ rfl
      have hc0 := hcur 0 (by simp)
      have HK := Lib.hid (And.intro hkp (And.intro hnum (And.intro hacc hkg)))
      have hg := hrd.cell
      clear hkp hnum hacc hkg hcur hx
      go_wp2_with (fail)
      refine (take_ok g (some ⟨b, off, none⟩) c' (x :: xs.drop (k + 1)) 1 _ hrd (by simp)).mono ?_
      rintro e w' ⟨A2, rfl, hrd2, hw2, hA2⟩
      have HSB := Lib.hid (HSB.out.trans (SameB.of hA2))
      clear hA2
      have cx : w'.cell? ⟨b, off, none⟩ = some (.int .u8 (x : Int)) := by
        rw [hw2, cell_of_row _ b off cur _ _ ((Below.heap_setCell _ _ _ _ hbg).trans hb)]
        simpa using hc0
      have hkp2 : Kp (fun k => k ≠ g) w w' := by rw [hw2]; exact HK.out.1.setCell (p := ⟨g, 0, none⟩) (by simp) _
      simp only [List.drop_succ_cons, List.drop_zero] at hrd2
      have HR2 := Lib.hid (And.intro hrd2 hkp2)
      clear hrd hrd2 hkp2 hw2 hb hc0 hg
      have hnum := HK.out.2.1
      rw [numT_cons] at hnum
      by_cases h9 : 9 ≤ k
      · obtain rfl : k = 9 := by omega
        have ts : decide ((s : Int) ≥ 63) = true := by have := HS.out; simp; omega
        rw [if_pos (by omega)] at hnum
        have HN := Lib.hid hnum
        clear hnum
        go_wp2_with (fail)
        refine (Fail_any g 6 6 rfl _).mono ?_
        rintro e w'' ⟨rfl, rfl⟩
        go_wp2
        refine ⟨rfl, ?_⟩
        rw [← HN.out]
        exact ⟨HR2.out.2, rfl⟩
      · have t63 : decide ((s : Int) ≥ 63) = false := by have := HS.out; simp; omega
        by_cases hz : x = 0 ∧ 0 < k
        · obtain ⟨rfl, hk0⟩ := hz
          rw [if_pos (.inr ⟨rfl, hk0⟩)] at hnum
          have HN := Lib.hid hnum
          have tk : decide (0 < s) = true := by have := HS.out; simp; omega
          clear hnum
          go_wp2_with (fail)
          refine (Fail_any g 6 6 rfl _).mono ?_
          rintro e w'' ⟨rfl, rfl⟩
          go_wp2
          refine ⟨rfl, ?_⟩
          rw [← HN.out]
          exact ⟨HR2.out.2, rfl⟩
        · rw [if_neg (by omega)] at hnum
          have HN := Lib.hid hnum
          clear hnum
          have hs := HS.out
          by_cases hx0 : x = 0
          · obtain rfl : k = 0 := by omega
            obtain rfl : s = 0 := by omega
            obtain rfl : acc = 0 := by have := HK.out.2.2.1; rw [Nat.pow_zero] at this; omega
            subst hx0
            have HN := Lib.hid (show (if most < 0 then Except.error 14 else Except.ok (0, xs.drop 1)) = numT most 0 0 xs from HN.out)
            have hor : bits .or .i64 0 0 = 0 := by decide
            clear hz hs h9 t63
            by_cases hm : most < 0
            · have tm : decide ((0 : Int) > most) = true := by simpa using hm
              rw [if_pos hm] at HN
              go_wp2_with (fail)
              refine (Fail_any g 14 14 rfl _).mono ?_
              rintro e w'' ⟨rfl, rfl⟩
              go_wp2
              refine ⟨rfl, ?_⟩
              rw [← HN.out]
              exact ⟨HR2.out.2, rfl⟩
            · have tm : decide ((0 : Int) > most) = false := by simp; omega
              rw [if_neg hm] at HN
              go_wp2_with (fail)
              go_ret
              rw [← HN.out]
              exact ⟨HR2.out.2, rfl, _, _, HR2.out.1, HSB.out⟩
          · have h7 := (seven_in (acc := acc) (x := x) (show k ≤ 8 by omega) HK.out.2.2.1).2
            have hsh := shl_in (x := x) (show k ≤ 8 by omega)
            have hor := or_in (acc := acc) (x := x) (show k ≤ 8 by omega) HK.out.2.2.1
            rw [← hs] at hsh
            have hs56 : s ≤ 56 := by omega
            have e128 : (x : Int) % 128 = ((x % 128 : Nat) : Int) := by omega
            have tx : ((x : Int) == 0) = false := by simp; omega
            have HN := Lib.hid (And.intro HN.out h7)
            generalize x % 128 * 128 ^ k = y at *
            generalize x % 128 = z at *
            clear h7 hz hs h9 hx0
            generalize acc + y = acc' at *
            by_cases hb : 128 ≤ x
            · have tb : decide ((x : Int) ≥ 128) = true := by simp; omega
              rw [if_pos hb] at HN
              go_wp2_with (fail)
              go_roundg gk
              case measure => omega
              case rel => exact ⟨k + 1, acc', A2, c' - 1, by have := HK.out.2.2.2; omega, by have := HS.out; omega, HN.out.2, rfl, ⟨s + 7, by have := HS.out; omega, by go_num⟩, HR2.out.1, HR2.out.2, HSB.out, HN.out.1⟩
            · have tb : decide ((x : Int) ≥ 128) = false := by simp; omega
              rw [if_neg hb] at HN
              by_cases hm : most < (acc' : Int)
              · have tm : decide ((acc' : Int) > most) = true := by simpa using hm
                rw [if_pos hm] at HN
                go_wp2_with (fail)
                refine (Fail_any g 14 14 rfl _).mono ?_
                rintro e w'' ⟨rfl, rfl⟩
                go_wp2
                refine ⟨rfl, ?_⟩
                rw [← HN.out.1]
                exact ⟨HR2.out.2, rfl⟩
              · have tm : decide ((acc' : Int) > most) = false := by simp; omega
                rw [if_neg hm] at HN
                go_wp2_with (fail)
                go_ret
                rw [← HN.out.1]
                exact ⟨HR2.out.2, rfl, _, _, HR2.out.1, HSB.out⟩

end Go.Proofs.Ytbbnmfdhpepdnaa
