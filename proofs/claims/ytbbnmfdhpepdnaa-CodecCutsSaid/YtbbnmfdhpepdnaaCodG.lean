/-
  The reader's other functions: Left, Count, Bytes, Text, Truth, Digest.
-/
import Derived.Test.YtbbnmfdhpepdnaaCodN
namespace Go.Proofs.Ytbbnmfdhpepdnaa
open Go.RowKit

theorem numT_lt (most : Int) : ∀ (xs : List Nat) (i n v : Nat) (ys : List Nat), n < 128 ^ i → numT most i n xs = .ok (v, ys) → v < 9223372036854775808
  | [], _, _, _, _, _, h => by cases h
  | c :: r, i, n, v, ys, hn, h => by
    rw [numT_cons] at h
    by_cases h9 : 9 ≤ i ∨ (c = 0 ∧ 0 < i)
    · rw [if_pos h9] at h; cases h
    · rw [if_neg h9] at h
      have h7 := (seven_in (acc := n) (x := c) (k := i) (by omega) hn).2
      by_cases hb : 128 ≤ c
      · rw [if_pos hb] at h
        exact numT_lt most r (i + 1) _ v ys h7 h
      · rw [if_neg hb] at h
        have h8 := Nat.lt_of_lt_of_le h7 (pow_lim (show i + 1 ≤ 9 by omega))
        unfold lim63 at h8
        split at h
        · cases h
        · cases h; exact h8
theorem numT_suffix (most : Int) : ∀ (xs : List Nat) (i n v : Nat) (ys : List Nat), numT most i n xs = .ok (v, ys) → ∃ k, 0 < k ∧ k ≤ xs.length ∧ ys = xs.drop k
  | [], _, _, _, _, h => by cases h
  | c :: r, i, n, v, ys, h => by
    rw [numT_cons] at h
    split at h
    · cases h
    · split at h
      · obtain ⟨k, h0, h1, h2⟩ := numT_suffix most r _ _ v ys h
        exact ⟨k + 1, by omega, by simp; omega, by simpa using h2⟩
      · split at h
        · cases h
        · cases h; exact ⟨1, by omega, by simp, rfl⟩

/-- bytes, read: how many, and these -/
def bytesT (most : Int) (xs : List Nat) : Except Nat (List Nat × List Nat) :=
  match numT most 0 0 xs with
  | .error e => .error e
  | .ok (v, ys) => if v ≤ ys.length then .ok (ys.take v, ys.drop v) else .error 6
def takeT (n : Nat) (xs : List Nat) : Except Nat (List Nat × List Nat) := if n ≤ xs.length then .ok (xs.take n, xs.drop n) else .error 6

/-- what a reading of bytes leaves: they lie in the reader's own block, ahead of what is left -/
def SlPost (g : Nat) (A0 : Option Addr) (w : World) (r : Except Nat (List Nat × List Nat)) (e : Ending) (w' : World) : Prop :=
  Kp (fun k => k ≠ g) w w' ∧ match r with
    | .ok (bs, ys) => ∃ A1 c1 A2 c2, e = .returned (.slice A1 bs.length bs.length) ∧ RowB w' A1 bs ∧ Rd w' g A2 c2 ys ∧ SameB A0 A1 ∧ SameB A0 A2 ∧ (∀ a, A1 = some a → a.block ≠ g) ∧ (A2 = A1.map (·.add bs.length) ∨ (A2 = A1 ∧ bs.length = c1 ∧ ys = []))
    | .error code => e = .panicked (thrown g (code : Int))

theorem Left_any (g : Nat) (A : Option Addr) (c : Nat) (xs : List Nat) (w : World) (h : Rd w g A c xs) :
    Calls Try.prog 24 #[.pointer (some ⟨g, 0, none⟩)] w fun e w' => e = .returned (.int .i64 (xs.length : Int)) ∧ w = w' := by
  have c1 := cell_of_row w g 0 _ _ _ h.cell
  clear h
  generalize xs.length = len at *
  go_enter Try.func24, Try.ntmps24
  go_wp2
  go_ret
  exact ⟨rfl, rfl⟩
theorem Count_any (g : Nat) (A : Option Addr) (c : Nat) (xs : List Nat) (most : Int) (w : World) (h : Rd w g A c xs) :
    Calls Try.prog 34 #[.pointer (some ⟨g, 0, none⟩), .int .i64 most] w (NumPost g A w (numT most 0 0 xs)) := by
  have HN := Lib.hid (Number_any g A c xs most w h)
  clear h
  go_enter Try.func34, Try.ntmps34
  go_wp2_with (fail)
  refine HN.out.mono ?_
  rintro e w' ⟨hk, hp⟩
  cases hr : numT most 0 0 xs with
  | error code =>
    rw [hr] at hp
    subst hp
    go_wp2
    exact ⟨rfl, hk, rfl⟩
  | ok s =>
    obtain ⟨v, ys⟩ := s
    rw [hr] at hp
    obtain ⟨rfl, A', c', hrd⟩ := hp
    have HX := Lib.hid (And.intro hk (And.intro hrd hr))
    clear hk hrd hr HN
    go_wp2
    go_ret
    refine ⟨HX.out.1, ?_⟩
    rw [HX.out.2.2]
    exact ⟨rfl, A', c', HX.out.2.1⟩
/-- what take leaves, said of the bytes -/
theorem take_any (g : Nat) (A : Option Addr) (c : Nat) (xs : List Nat) (n : Nat) (w : World) (h : Rd w g A c xs) (hn : n ≤ 9223372036854775807) :
    Calls Try.prog 28 #[.pointer (some ⟨g, 0, none⟩), .int .i64 (n : Int)] w (SlPost g A w (takeT n xs)) := by
  unfold takeT
  by_cases hl : n ≤ xs.length
  · rw [if_pos hl]
    refine (take_ok g A c xs n w h hl).mono ?_
    rintro e w' ⟨A2, rfl, hrd, rfl, hA⟩
    have hbl : (xs.take n).length = n := by rw [List.length_take]; omega
    refine ⟨(Kp.refl _ w).setCell (p := ⟨g, 0, none⟩) (by simp) _, A, c, A2, c - n, by rw [hbl], ?_, hrd, SameB.refl _, SameB.of hA, h.apart, ?_⟩
    · exact (h.row.take n).move (fun a ha _ => Below.heap_setCell _ _ _ _ (h.apart a ha))
    · rw [hbl]
      rcases hA with h1 | ⟨h1, h2⟩
      · exact .inl h1
      · exact .inr ⟨h1, h2, List.drop_eq_nil_of_le (by have := h.cap; omega)⟩
  · rw [if_neg hl]
    refine (take_no g A c xs n w h (by omega) hn).mono ?_
    rintro e w' ⟨rfl, rfl⟩
    exact ⟨Kp.refl _ _, rfl⟩
theorem SlPost.step {g : Nat} {A A' : Option Addr} {w w1 : World} {r : Except Nat (List Nat × List Nat)} {e : Ending} {w' : World} (h : SlPost g A' w1 r e w') (hk : Kp (fun k => k ≠ g) w w1) (hs : SameB A A') : SlPost g A w r e w' := by
  refine ⟨hk.trans h.1, ?_⟩
  have h2 := h.2
  cases r with
  | error code => exact h2
  | ok s =>
    obtain ⟨bs, ys⟩ := s
    obtain ⟨A1, c1, A2, c2, h1, h2, h3, h4, h5, h6⟩ := h2
    exact ⟨A1, c1, A2, c2, h1, h2, h3, hs.trans h4, hs.trans h5, h6⟩
set_option maxHeartbeats 400000 in
theorem Bytes_any (g : Nat) (A : Option Addr) (c : Nat) (xs : List Nat) (most : Int) (w : World) (h : Rd w g A c xs) :
    Calls Try.prog 30 #[.pointer (some ⟨g, 0, none⟩), .int .i64 most] w (SlPost g A w (bytesT most xs)) := by
  have HN := Lib.hid (Number_any g A c xs most w h)
  clear h
  go_enter Try.func30, Try.ntmps30
  go_wp2_with (fail)
  refine HN.out.mono ?_
  clear HN
  rintro e w1 ⟨hk, hp⟩
  cases hr : numT most 0 0 xs with
  | error code =>
    rw [hr] at hp
    subst hp
    have HE : Hid (bytesT most xs = .error code) := Lib.hid (by unfold bytesT; rw [hr])
    clear hr
    go_wp2
    refine ⟨rfl, hk, ?_⟩
    rw [HE.out]
  | ok s =>
    obtain ⟨v, ys⟩ := s
    rw [hr] at hp
    obtain ⟨rfl, A', c', hrd, hsb⟩ := hp
    have hv := numT_lt most xs 0 0 v ys (by decide) hr
    have HT := Lib.hid (take_any g A' c' ys v w1 hrd (by omega))
    have HE : Hid (bytesT most xs = if v ≤ ys.length then .ok (ys.take v, ys.drop v) else .error 6) := Lib.hid (by unfold bytesT; rw [hr])
    have HX := Lib.hid (And.intro hk hsb)
    clear hk hrd hr hsb hv
    go_wp2_with (fail)
    refine HT.out.mono ?_
    clear HT
    intro e w2 hp
    have hp := hp.step HX.out.1 HX.out.2
    unfold takeT at hp
    by_cases hl : v ≤ ys.length
    · rw [if_pos hl] at hp HE
      generalize ys.take v = bs at *
      generalize ys.drop v = zs at *
      obtain ⟨hk2, A1, c1, A2, c2, rfl, hq⟩ := hp
      have HQ := Lib.hid (And.intro hk2 hq)
      clear hk2 hq hl
      go_wp2
      go_ret
      refine ⟨HQ.out.1, ?_⟩
      rw [HE.out]
      exact ⟨A1, c1, A2, c2, rfl, HQ.out.2⟩
    · rw [if_neg hl] at hp HE
      obtain ⟨hk2, hq⟩ := hp
      have hq' : e = .panicked (thrown g 6) := hq
      subst hq'
      clear hl hq
      go_wp2
      refine ⟨rfl, hk2, ?_⟩
      rw [HE.out]
      rfl

/-- what a reading of text leaves -/
def TxPost (g : Nat) (A0 : Option Addr) (w : World) (r : Except Nat (List Nat × List Nat)) (e : Ending) (w' : World) : Prop :=
  Kp (fun k => k ≠ g) w w' ∧ match r with
    | .ok (bs, ys) => e = .returned (.string (bstr bs)) ∧ (∀ x ∈ bs, x < 256) ∧ ∃ A2 c2, Rd w' g A2 c2 ys ∧ SameB A0 A2
    | .error code => e = .panicked (thrown g (code : Int))
theorem Text_any (g : Nat) (A : Option Addr) (c : Nat) (xs : List Nat) (most : Int) (w : World) (h : Rd w g A c xs) :
    Calls Try.prog 31 #[.pointer (some ⟨g, 0, none⟩), .int .i64 most] w (TxPost g A w (bytesT most xs)) := by
  have HN := Lib.hid (Bytes_any g A c xs most w h)
  clear h
  go_enter Try.func31, Try.ntmps31
  go_wp2_with (fail)
  refine HN.out.mono ?_
  clear HN
  rintro e w1 ⟨hk, hp⟩
  cases hr : bytesT most xs with
  | error code =>
    rw [hr] at hp
    subst hp
    clear hr
    go_wp2
    exact ⟨rfl, hk, rfl⟩
  | ok s =>
    obtain ⟨bs, ys⟩ := s
    rw [hr] at hp
    obtain ⟨A1, c1, A2, c2, rfl, hb, hrd, _, hsb, _⟩ := hp
    have hcv := str_of w1 A1 bs hb.u8 bs.length
    have HX := Lib.hid (And.intro hk (And.intro hb.lt (And.intro hr (And.intro hrd hsb))))
    clear hk hrd hr hsb hb
    go_wp2
    go_ret
    refine ⟨HX.out.1, ?_⟩
    rw [HX.out.2.2.1]
    exact ⟨rfl, HX.out.2.1, A2, c2, HX.out.2.2.2⟩

def truthT (xs : List Nat) : Except Nat (Bool × List Nat) :=
  match xs with
  | [] => .error 6
  | c :: r => if 1 < c then .error 6 else .ok (decide (c = 1), r)
def TrPost (g : Nat) (A0 : Option Addr) (w : World) (r : Except Nat (Bool × List Nat)) (e : Ending) (w' : World) : Prop :=
  Kp (fun k => k ≠ g) w w' ∧ match r with
    | .ok (b, ys) => e = .returned (.bool b) ∧ ∃ A2 c2, Rd w' g A2 c2 ys ∧ SameB A0 A2
    | .error code => e = .panicked (thrown g (code : Int))
set_option maxHeartbeats 400000 in
theorem Truth_any (g : Nat) (A : Option Addr) (c : Nat) (xs : List Nat) (w : World) (h : Rd w g A c xs) :
    Calls Try.prog 32 #[.pointer (some ⟨g, 0, none⟩)] w (TrPost g A w (truthT xs)) := by
  have HT := Lib.hid (take_any g A c xs 1 w h (by omega))
  clear h
  cases xs with
  | nil =>
    go_enter Try.func32, Try.ntmps32
    go_wp2_with (fail)
    refine HT.out.mono ?_
    clear HT
    rintro e w1 ⟨hk, hp⟩
    have hp' : e = .panicked (thrown g 6) := hp
    subst hp'
    clear hp
    go_wp2
    exact ⟨rfl, hk, rfl⟩
  | cons x r =>
    go_enter Try.func32, Try.ntmps32
    go_wp2_with (fail)
    refine HT.out.mono ?_
    clear HT
    rintro e w1 ⟨hk, hp⟩
    obtain ⟨A1, c1, A2, c2, rfl, hb, hrd, _, hsb, _⟩ : ∃ A1 c1 A2 c2, e = .returned (.slice A1 1 1) ∧ RowB w1 A1 [x] ∧ Rd w1 g A2 c2 r ∧ SameB A A1 ∧ SameB A A2 ∧ (∀ a, A1 = some a → a.block ≠ g) ∧ (A2 = A1.map (·.add 1) ∨ (A2 = A1 ∧ 1 = c1 ∧ r = [])) := hp
    obtain ⟨b, off, e1, hc⟩ := hb.u8.form (by simp)
    have c1 := hc 0 (by simp)
    have hx : x < 256 := hb.lt x (by simp)
    subst e1
    simp only [Nat.add_zero, List.getElem?_cons_zero, Option.getD_some] at c1
    have HX := Lib.hid (And.intro hk (And.intro hrd hsb))
    clear hk hrd hsb hb hc
    by_cases h1 : 1 < x
    · have t1 : decide ((x : Int) > 1) = true := by simp; omega
      have HE := Lib.hid (show truthT (x :: r) = .error 6 from if_pos h1)
      go_wp2_with (fail)
      refine (Fail_any g 6 6 rfl _).mono ?_
      rintro e w' ⟨rfl, rfl⟩
      go_wp2
      refine ⟨rfl, HX.out.1, ?_⟩
      rw [HE.out]
      rfl
    · have t1 : decide ((x : Int) > 1) = false := by simp; omega
      have HE := Lib.hid (show truthT (x :: r) = .ok (decide (x = 1), r) from if_neg h1)
      have HB := Lib.hid (show ((x : Int) == 1) = decide (x = 1) by rw [Bool.eq_iff_iff]; simp; omega)
      clear h1
      go_wp2
      go_ret
      refine ⟨HX.out.1, ?_⟩
      rw [HE.out, ← HB.out]
      exact ⟨by simp, A2, c2, HX.out.2⟩

end Go.Proofs.Ytbbnmfdhpepdnaa
