/-
  The document's Take: the number at the beginning of bytes.
-/
import Derived.Test.YtbbnmfdhpepdnaaCodN
namespace Go.Proofs.Ytbbnmfdhpepdnaa
open Go.RowKit

/-- what Take tells -/
def takeV (most : Int) (xs : List Nat) : Int × Int × Int :=
  match numT most 0 0 xs with
  | .ok (v, ys) => ((v : Int), ((xs.length - ys.length : Nat) : Int), 0)
  | .error c => (0, 0, (c : Int))
def triple (t : Int × Int × Int) : Value := .tuple #[.int .i64 t.1, .int .i64 t.2.1, .int .i64 t.2.2]
theorem takeV_ok {most : Int} {xs : List Nat} {v : Nat} {ys : List Nat} {k : Nat} (h : numT most 0 0 xs = .ok (v, ys)) (hk : xs.length - ys.length = k) : takeV most xs = ((v : Int), (k : Int), 0) := by unfold takeV; rw [h, ← hk]
theorem takeV_error {most : Int} {xs : List Nat} {c : Nat} (h : numT most 0 0 xs = .error c) : takeV most xs = (0, 0, (c : Int)) := by unfold takeV; rw [h]

set_option maxRecDepth 100000 in
set_option maxHeartbeats 2000000 in
theorem rTake_any (A : Option Addr) (c : Nat) (xs : List Nat) (most : Int) (w : World) (h : RowU8 w A xs) (hm : xs.length ≤ 9223372036854775807) :
    Calls Try.prog 29 #[.slice A xs.length c, .int .i64 most] w fun e w' => e = .returned (triple (takeV most xs)) ∧ w = w' := by
  obtain ⟨len, hlen⟩ : ∃ n, n = xs.length := ⟨_, rfl⟩
  rw [← hlen] at hm ⊢
  have HL := Lib.hid hlen
  have HR := Lib.hid h
  clear hlen h
  go_enter Try.func29, Try.ntmps29
  go_wp2_with (fail)
  go_loopg [7, 8, 9] 9 (fun gk s7 s8 s9 wx => ∃ (k acc by_ : Nat), k + gk = 9 ∧ k ≤ len ∧ acc < 128 ^ k ∧ by_ = 128 ^ k ∧ s7 = .int .i64 (acc : Int) ∧ (k < 9 → s8 = .int .i64 (by_ : Int)) ∧ s9 = .int .i64 (k : Int) ∧ wx = w ∧ numT most k acc (xs.drop k) = numT most 0 0 xs)
  case atStart => exact ⟨0, 0, 1, rfl, Nat.zero_le _, by decide, rfl, rfl, fun _ => rfl, rfl, rfl, rfl⟩
  case round =>
    obtain ⟨k, acc, by_, hkg, hkl, hacc, hby, rfl, h8, rfl, rfl, hnum⟩ := hrel
    cases gk with
    | zero =>
      obtain rfl : k = 9 := by omega
      have hN := hnum
      have hE : numT most 0 0 xs = .error 6 := by
        rw [← hnum]
        cases hd : xs.drop 9 with
        | nil => rfl
        | cons x r => rw [numT_cons, if_pos (.inl (Nat.le_refl _))]
      have HE := Lib.hid (takeV_error hE)
      clear hnum hN hE hby h8 hacc
      by_cases hl : 9 < len
      · have t1 : decide (9 < len) = true := by simpa using hl
        have t2 : decide ((9 : Int) < (len : Int)) = true := by simp; omega
        clear hl
        go_wp2
        go_ret3
        exact ⟨by rw [HE.out]; rfl, rfl⟩
      · have t1 : decide (9 < len) = false := by simpa using hl
        have t2 : decide ((9 : Int) < (len : Int)) = false := by simp; omega
        clear hl
        go_wp2
        go_ret3
        exact ⟨by rw [HE.out]; rfl, rfl⟩
    | succ gk =>
      have hk9 : k < 9 := by omega
      obtain rfl := h8 hk9
      by_cases hl : k < len
      · have hkl' : k < xs.length := by rw [← HL.out]; exact hl
        obtain ⟨x, hx, hxe⟩ : ∃ x, xs.drop k = x :: xs.drop (k + 1) ∧ xs[k]?.getD 0 = x := ⟨xs[k], List.drop_eq_getElem_cons hkl', by rw [List.getElem?_eq_getElem hkl']; rfl⟩
        obtain ⟨b, off, e1, hc⟩ := HR.out.form (by omega)
        have c1 := hc k hkl'
        have hxlt : x < 256 := by rw [← hxe]; exact getD_lt HR.out.lt k
        rw [hxe] at c1
        subst e1
        rw [hx, numT_cons] at hnum
        have h7 := seven_in (acc := acc) (x := x) (show k ≤ 8 by omega) hacc
        have h63 := Nat.lt_of_lt_of_le h7.2 (pow_lim (show k + 1 ≤ 9 by omega))
        unfold lim63 at h63
        have hby8 : by_ ≤ 72057594037927936 := by
          have : (128 : Nat) ^ k ≤ 128 ^ 8 := Nat.pow_le_pow_right (by decide) (by omega)
          have e : (128 : Nat) ^ 8 = 72057594037927936 := by decide
          omega
        have hby7 : k < 8 → by_ ≤ 562949953421312 := fun h8 => by
          have : (128 : Nat) ^ k ≤ 128 ^ 7 := Nat.pow_le_pow_right (by decide) (by omega)
          have e : (128 : Nat) ^ 7 = 562949953421312 := by decide
          omega
        have hbs : by_ * 128 = 128 ^ (k + 1) := by rw [hby, Nat.pow_succ]
        have e128 : (x : Int) % 128 = ((x % 128 : Nat) : Int) := by omega
        rw [← hby] at hnum h7 h63
        have hmul : wrap64 (((x % 128 : Nat) : Int) * (by_ : Int)) = ((x % 128 * by_ : Nat) : Int) := by
          have e : ((x % 128 : Nat) : Int) * (by_ : Int) = ((x % 128 * by_ : Nat) : Int) := by push_cast; rfl
          rw [e]
          generalize x % 128 * by_ = y at *
          exact IntWalk.wrap64_in _ ⟨by omega, by omega⟩
        have HN := Lib.hid (And.intro hnum (And.intro h7.2 (And.intro hbs (And.intro hkg (And.intro hkl' hk9)))))
        generalize x % 128 * by_ = y at *
        generalize x % 128 = z at *
        have hsum : acc + y ≤ 9223372036854775807 := by omega
        have t1 : decide (k < len) = true := by simpa using hl
        have t3 : decide ((k : Int) < 9) = true := by simp; omega
        have tk : (0 : Int) ≤ (k : Int) ∧ (k : Int) < (len : Int) := by omega
        have HX := Lib.hid (show xs.length - (xs.drop (k + 1)).length = k + 1 by rw [List.length_drop]; omega)
        clear hnum h7 hbs hkg hx hxe hc hby hacc h63 hkl' h8 hkl
        by_cases hb : 128 ≤ x
        · have tb : decide ((x : Int) < 128) = false := by simp; omega
          rw [if_neg (by omega), if_pos hb] at HN
          by_cases h8 : k < 8
          · have hb7 := hby7 h8
            clear hby7 hby8 hb
            go_wp2
            go_roundg gk
            case measure => omega
            case rel => exact ⟨k + 1, acc + y, by_ * 128, by have := HN.out.2.2.2.1; omega, by omega, HN.out.2.1, HN.out.2.2.1, by go_num, fun _ => by go_num, by go_num, rfl, HN.out.1⟩
          · obtain rfl : k = 8 := by omega
            clear hby7 hb
            go_wp2
            go_roundg gk
            case measure => omega
            case rel => exact ⟨9, acc + y, by_ * 128, by have := HN.out.2.2.2.1; omega, by omega, HN.out.2.1, HN.out.2.2.1, by go_num, fun h => by omega, by go_num, rfl, HN.out.1⟩
        · have tb : decide ((x : Int) < 128) = true := by simp; omega
          clear hby7 hby8
          by_cases hz : x = 0 ∧ 0 < k
          · obtain ⟨rfl, hk0⟩ := hz
            rw [if_pos (.inr ⟨rfl, hk0⟩)] at HN
            have HE := Lib.hid (takeV_error HN.out.1.symm)
            have tk0 : decide (0 < k) = true := by simpa using hk0
            clear hk0 hb
            go_wp2
            go_ret3
            exact ⟨by rw [HE.out]; rfl, rfl⟩
          · rw [if_neg (by omega), if_neg hb] at HN
            have hz' : k = 0 ∨ (0 < k ∧ x ≠ 0) := by omega
            clear hz hb
            by_cases hm : most < ((acc + y : Nat) : Int)
            · have tm : decide ((acc : Int) + (y : Int) > most) = true := by simp; omega
              rw [if_pos hm] at HN
              have HE := Lib.hid (takeV_error HN.out.1.symm)
              clear hm
              rcases hz' with hk0 | ⟨hk0, hx0⟩
              · have tk0 : decide (0 < k) = false := by simp; omega
                clear hk0
                go_wp2
                go_ret3
                exact ⟨by rw [HE.out]; rfl, rfl⟩
              · have tk0 : decide (0 < k) = true := by simpa using hk0
                have tx0 : ((x : Int) == 0) = false := by simp; omega
                clear hk0 hx0
                go_wp2
                go_ret3
                exact ⟨by rw [HE.out]; rfl, rfl⟩
            · have tm : decide ((acc : Int) + (y : Int) > most) = false := by simp; omega
              rw [if_neg hm] at HN
              have HE := Lib.hid (takeV_ok HN.out.1.symm HX.out)
              clear hm
              rcases hz' with hk0 | ⟨hk0, hx0⟩
              · have tk0 : decide (0 < k) = false := by simp; omega
                clear hk0
                go_wp2
                go_ret3
                exact ⟨by rw [HE.out]; rfl, rfl⟩
              · have tk0 : decide (0 < k) = true := by simpa using hk0
                have tx0 : ((x : Int) == 0) = false := by simp; omega
                clear hk0 hx0
                go_wp2
                go_ret3
                exact ⟨by rw [HE.out]; rfl, rfl⟩
      · obtain rfl : k = len := by omega
        have hnil : xs.drop k = [] := List.drop_eq_nil_of_le (by rw [HL.out]; exact Nat.le_refl _)
        rw [hnil] at hnum
        have HE := Lib.hid (takeV_error (c := 6) hnum.symm)
        clear hnum hnil hacc hby
        go_wp2
        go_ret3
        exact ⟨by rw [HE.out]; rfl, rfl⟩

end Go.Proofs.Ytbbnmfdhpepdnaa
