/-
  The walks of the laws FieldRows and FieldRounds: each returns true, and nothing that lay in memory has turned.
-/
import Derived.Test.YtfmccbijkagfnaaFieldRowsF
import Derived.Test.YtfmccbijkagfnaaFieldPows
namespace Go.Proofs.Ytfmccbijkagfnaa
open Go.RowKit

theorem quiet_l {P : Program} {f : FuncId} {args : Array Value} {w : World} {n : Nat} {v : Value}
    (h : Calls P f args (w.drewN n) fun e w' => e = .returned v ∧ w.drewN n = w') : Calls P f args (w.drewN n) fun e w'' => e = .returned v ∧ ∃ m, w'' = w.drewN m :=
  h.mono fun _ _ ⟨he, hm⟩ => ⟨he, n, hm.symm⟩

theorem Scale_ctx {w0 w : World} {g : Nat} (by_ : Nat) (A : Option Addr) (c : Nat) (xs : List Nat) (h : Ctx w0 g w) (hby : by_ < 256) (hr : RowU8 w A xs) (hm : xs.length ≤ 281474976710656) :
    Calls Try.prog 17 #[.pointer (some ⟨g, 0, none⟩), .int .u8 by_, .slice A xs.length c] w fun e w' =>
      ∃ B, e = .returned (.slice (some ⟨B, 0, none⟩) xs.length xs.length) ∧ RowU8 w' (some ⟨B, 0, none⟩) (xs.map (Gf.gm by_)) ∧ Ctx w0 g w' ∧ Below w.heap.size w w' :=
  (Scale_any g by_ A c xs w h.field hby hr hm).mono fun _ _ ⟨he, hh, hb, _⟩ => ⟨_, he, row_of_block hh (by intro y hy; obtain ⟨x, _, rfl⟩ := List.mem_map.1 hy; exact Gf.gm_lt _ _), h.step hb, hb⟩
theorem zip_lt {xs ys : List Nat} (hx : ∀ x ∈ xs, x < 256) (hy : ∀ y ∈ ys, y < 256) : ∀ z ∈ List.zipWith (· ^^^ ·) xs ys, z < 256 := by
  induction xs generalizing ys with
  | nil => simp
  | cons x xs ih =>
    cases ys with
    | nil => simp
    | cons y ys =>
      intro z hz
      simp only [List.zipWith_cons_cons, List.mem_cons] at hz
      rcases hz with rfl | hz
      · exact Gf.xor_lt (hx _ (List.mem_cons_self ..)) (hy _ (List.mem_cons_self ..))
      · exact ih (fun a ha => hx a (List.mem_cons_of_mem _ ha)) (fun a ha => hy a (List.mem_cons_of_mem _ ha)) z hz
theorem Plus_ctx {w0 w : World} {g : Nat} (A : Option Addr) (c : Nat) (xs : List Nat) (A' : Option Addr) (c' : Nat) (ys : List Nat) (h : Ctx w0 g w) (hr : RowU8 w A xs) (hr' : RowU8 w A' ys) (hm : xs.length ≤ 281474976710656) (he : ys.length = xs.length) :
    Calls Try.prog 18 #[.pointer (some ⟨g, 0, none⟩), .slice A xs.length c, .slice A' xs.length c'] w fun e w' =>
      ∃ B, e = .returned (.tuple #[.slice (some ⟨B, 0, none⟩) xs.length xs.length, .int .i64 0]) ∧ RowU8 w' (some ⟨B, 0, none⟩) (List.zipWith (· ^^^ ·) xs ys) ∧ Ctx w0 g w' ∧ Below w.heap.size w w' :=
  (Plus_any g A c xs A' c' ys w hr hr' hm he).mono fun _ _ ⟨he, hh, hb, _⟩ => ⟨_, he, row_of_block hh (zip_lt hr.lt hr'.lt), h.step hb, hb⟩

set_option maxRecDepth 100000 in
set_option maxHeartbeats 1000000 in
theorem FieldRows_long (by_ : Nat) (A : Option Addr) (c n : Nat) (A' : Option Addr) (c' n' : Nat) (w : World) (h : 100 < n ∨ 100 < n') (hm : n ≤ 9223372036854775807) (hm' : n' ≤ 9223372036854775807) :
    Calls Try.prog 6 #[.int .u8 by_, .slice A n c, .slice A' n' c'] w fun e w' => e = .returned (.bool true) ∧ Below w.heap.size w w' := by
  by_cases h0 : 100 < n
  · go_enter Try.func6, Try.ntmps6
    go_wp2_with (fail)
    refine (awake_any w).mono ?_
    rintro e w1 ⟨rfl, h1⟩
    go_wp2_with (fail)
    refine (awake_any w1).mono ?_
    rintro e w2 ⟨rfl, h2⟩
    go_wp2
    go_ret
    exact ⟨rfl, h1.trans (h2.mono h1.size)⟩
  · have h0' : 100 < n' := by omega
    go_enter Try.func6, Try.ntmps6
    go_wp2_with (fail)
    refine (awake_any w).mono ?_
    rintro e w1 ⟨rfl, h1⟩
    go_wp2_with (fail)
    refine (awake_any w1).mono ?_
    rintro e w2 ⟨rfl, h2⟩
    go_wp2
    go_ret
    exact ⟨rfl, h1.trans (h2.mono h1.size)⟩

set_option maxRecDepth 100000 in
set_option maxHeartbeats 2000000 in
theorem FieldRows_short (by_ : Nat) (A : Option Addr) (c : Nat) (xs : List Nat) (A' : Option Addr) (c' : Nat) (ys : List Nat) (w : World) (hby : by_ < 256) (hr : RowU8 w A xs) (hn : xs.length ≤ 100) (hn' : ys.length ≤ 100) (hne : xs.length ≠ ys.length) :
    Calls Try.prog 6 #[.int .u8 by_, .slice A xs.length c, .slice A' ys.length c'] w fun e w' => e = .returned (.bool true) ∧ Below w.heap.size w w' := by
  obtain ⟨i0, hi, hz0, hz1, hz2⟩ := info_parts Try.infoByte
  have hd1 : decide (100 < (xs.length : Int)) = false := by simp; omega
  have hd2 : decide (100 < (ys.length : Int)) = false := by simp; omega
  go_enter Try.func6, Try.ntmps6
  go_wp2_with (fail)
  refine (awake_any w).mono ?_
  rintro e w1 ⟨rfl, h1⟩
  go_wp2_with (fail)
  refine (New_ctx w w1 h1).mono ?_
  rintro e w2 ⟨g, rfl, h2⟩
  have r2 := hr.below h2.below
  have o2 := World.ownsRow_lit (base := w2.heap.size) (e := 5) (size := 1) w2 #[] 0 (Nat.le_refl _) (by simp [maxLen]) rfl
  go_wp2_with (at_builtin; refine wpList_append_rowv _ rfl (.tmp 28) (.tmp 29) 35 rfl w2.heap.size 5 i0 _ 1 1 Try.underlying35 hi hz0 hz1 hz2 rfl (by decide) _ 0 [] rfl o2 A xs.length c (u8v xs) rfl (r2.below ((Below.refl _ w2).alloc (Nat.le_refl _) _)).rowv (by simp [u8v_length]) (u8v_one xs) (by simp only [maxLen]; omega) (by omega) (by simp) ?_; intro A3 c3 w3 o3 g3)
  simp only [Nat.zero_add, List.nil_append] at o3
  have b3 : Below w2.heap.size w2 w3 := ((Below.refl _ w2).alloc (Nat.le_refl _) _).grown g3 (by simp) (fun k hk => by cases hk; exact Nat.le_refl _)
  have r3 : RowU8 w3 A3 xs := (RowV.of_own o3).row hr.lt
  have h3 := h2.step b3
  clear o2 o3 g3 hi hz0 hz1 hz2
  refine (Scale_ctx by_ A3 c3 xs h3 hby r3 (by omega)).mono ?_
  rintro e w4 ⟨B, rfl, r4, h4, b4⟩
  go_wp2_with (fail)
  refine (Plus_ne g A3 c3 xs.length A' c' ys.length w4 hne).mono ?_
  rintro e w' ⟨rfl, rfl⟩
  have r4a := hr.below h4.below
  have cv1 := str_of w4 A3 xs (r3.below b4) c3
  have cv2 := str_of w4 A xs r4a c
  have hne2 : ((xs.length : Int) != (ys.length : Int)) = true := by simp; omega
  have hne3 : (xs.length != ys.length) = true := by simp; omega
  go_wp2
  clear cv1 cv2
  go_loopw [12, 56] (fun _ i wr => ∃ k : Nat, k ≤ xs.length ∧ i = .int .i64 k ∧ Ctx w g wr ∧ Below w4.heap.size w4 wr) (fun _ i _ => xs.length - (intOf i).toNat)
  case atStart => exact ⟨0, Nat.zero_le _, rfl, h4, Below.refl _ _⟩
  case round =>
    obtain ⟨k, hk, rfl, hcx, hbx⟩ := hrel
    by_cases hlt : k < xs.length
    · obtain ⟨b1, o1, e1, q1⟩ := (hr.below hcx.below).form (by omega)
      subst e1
      obtain ⟨b2, o2, e2, q2⟩ := (r4.below hbx).form (by simp; omega)
      have d1 := q1 k hlt
      have d2 := q2 k (by simpa using hlt)
      have em : (xs.map (Gf.gm by_))[k]?.getD 0 = Gf.gm by_ (xs[k]?.getD 0) := by simp [hlt]
      rw [em] at d2
      injection e2 with e2
      injection e2 with e2 e3
      subst e2; subst e3
      rw [Nat.zero_add] at d2
      clear em q1 q2
      have hlz : (k : Int) < (xs.length : Int) := by omega
      have hxl := getD_lt hr.lt k
      generalize xs[k]?.getD 0 = x at d1 d2 hxl
      go_wp2
      go_quiet ((go_at_call 14; exact quiet_l (rMul_any _ _ _ hby hxl)))
      go_wp2
      go_roundw
      case rel => exact ⟨k + 1, by omega, by go_num, hcx.drewN _, below_drewN hbx _⟩
      case measure => simp [intOf]; omega
    · obtain rfl : k = xs.length := by omega
      go_wp2
      go_ret
      exact ⟨rfl, hcx.below⟩

set_option maxRecDepth 100000 in
set_option maxHeartbeats 2000000 in
theorem FieldRows_same (by_ : Nat) (A : Option Addr) (c : Nat) (xs : List Nat) (A' : Option Addr) (c' : Nat) (ys : List Nat) (w : World) (hby : by_ < 256) (hr : RowU8 w A xs) (hr' : RowU8 w A' ys) (hn : xs.length ≤ 100) (he : ys.length = xs.length) :
    Calls Try.prog 6 #[.int .u8 by_, .slice A xs.length c, .slice A' xs.length c'] w fun e w' => e = .returned (.bool true) ∧ Below w.heap.size w w' := by
  obtain ⟨i0, hi, hz0, hz1, hz2⟩ := info_parts Try.infoByte
  have hd1 : decide (100 < (xs.length : Int)) = false := by simp; omega
  go_enter Try.func6, Try.ntmps6
  go_wp2_with (fail)
  refine (awake_any w).mono ?_
  rintro e w1 ⟨rfl, h1⟩
  go_wp2_with (fail)
  refine (New_ctx w w1 h1).mono ?_
  rintro e w2 ⟨g, rfl, h2⟩
  have r2 := hr.below h2.below
  have o2 := World.ownsRow_lit (base := w2.heap.size) (e := 5) (size := 1) w2 #[] 0 (Nat.le_refl _) (by simp [maxLen]) rfl
  go_wp2_with (at_builtin; refine wpList_append_rowv _ rfl (.tmp 28) (.tmp 29) 35 rfl w2.heap.size 5 i0 _ 1 1 Try.underlying35 hi hz0 hz1 hz2 rfl (by decide) _ 0 [] rfl o2 A xs.length c (u8v xs) rfl (r2.below ((Below.refl _ w2).alloc (Nat.le_refl _) _)).rowv (by simp [u8v_length]) (u8v_one xs) (by simp only [maxLen]; omega) (by omega) (by simp) ?_; intro A3 c3 w3 o3 g3)
  simp only [Nat.zero_add, List.nil_append] at o3
  have b3 : Below w2.heap.size w2 w3 := ((Below.refl _ w2).alloc (Nat.le_refl _) _).grown g3 (by simp) (fun k hk => by cases hk; exact Nat.le_refl _)
  have r3 : RowU8 w3 A3 xs := (RowV.of_own o3).row hr.lt
  have h3 := h2.step b3
  clear o2 o3 g3 hi hz0 hz1 hz2
  refine (Scale_ctx by_ A3 c3 xs h3 hby r3 (by omega)).mono ?_
  rintro e w4 ⟨B, rfl, r4, h4, b4⟩
  have r4a := hr.below h4.below
  have r4b := hr'.below h4.below
  go_wp2_with (fail)
  refine (Plus_ctx A3 c3 xs A' c' ys h4 (r3.below b4) r4b (by omega) he).mono ?_
  rintro e w5 ⟨B2, rfl, r5, h5, b5⟩
  have cv1 := str_of w5 A3 xs ((r3.below b4).below b5) c3
  have cv2 := str_of w5 A xs (r4a.below b5) c
  go_wp2
  clear cv1 cv2
  go_loopw [12, 56] (fun _ i wr => ∃ k : Nat, k ≤ xs.length ∧ i = .int .i64 k ∧ Ctx w g wr ∧ Below w5.heap.size w5 wr) (fun _ i _ => xs.length - (intOf i).toNat)
  case atStart => exact ⟨0, Nat.zero_le _, rfl, h5, Below.refl _ _⟩
  case round =>
    obtain ⟨k, hk, rfl, hcx, hbx⟩ := hrel
    by_cases hlt : k < xs.length
    · obtain ⟨b1, o1, e1, q1⟩ := (hr.below hcx.below).form (by omega)
      subst e1
      obtain ⟨b2, o2, e2, q2⟩ := ((r4.below b5).below hbx).form (by simp; omega)
      have d1 := q1 k hlt
      have d2 := q2 k (by simpa using hlt)
      have em : (xs.map (Gf.gm by_))[k]?.getD 0 = Gf.gm by_ (xs[k]?.getD 0) := by simp [hlt]
      rw [em] at d2
      injection e2 with e2
      injection e2 with e2 e3
      subst e2; subst e3
      rw [Nat.zero_add] at d2
      clear em q1 q2
      have hlz : (k : Int) < (xs.length : Int) := by omega
      have hxl := getD_lt hr.lt k
      generalize xs[k]?.getD 0 = x at d1 d2 hxl
      go_wp2
      go_quiet ((go_at_call 14; exact quiet_l (rMul_any _ _ _ hby hxl)))
      go_wp2
      go_roundw
      case rel => exact ⟨k + 1, by omega, by go_num, hcx.drewN _, below_drewN hbx _⟩
      case measure => simp [intOf]; omega
    · obtain rfl : k = xs.length := by omega
      go_wp2
      clear r4a r4b
      go_loopw [13, 85] (fun _ i wz => ∃ k : Nat, k ≤ xs.length ∧ i = .int .i64 k ∧ Ctx w g wz ∧ Below w5.heap.size w5 wz) (fun _ i _ => xs.length - (intOf i).toNat)
      case atStart => exact ⟨0, Nat.zero_le _, rfl, hcx, hbx⟩
      case round =>
        obtain ⟨k, hk, rfl, hcz, hbz⟩ := hrel
        by_cases hlt : k < xs.length
        · obtain ⟨b1, o1, e1, q1⟩ := (hr.below hcz.below).form (by omega)
          subst e1
          obtain ⟨b3, o3, e3, q3⟩ := (hr'.below hcz.below).form (by omega)
          subst e3
          obtain ⟨b2, o2, e2, q2⟩ := (r5.below hbz).form (by simp; omega)
          have d1 := q1 k hlt
          have d3 := q3 k (by omega)
          have d2 := q2 k (by simp; omega)
          have hx := u8_xor_nat (xs[k]?.getD 0) (ys[k]?.getD 0) (getD_lt hr.lt k) (getD_lt hr'.lt k)
          have em : (List.zipWith (· ^^^ ·) xs ys)[k]?.getD 0 = (xs[k]?.getD 0) ^^^ (ys[k]?.getD 0) := by
            have : k < ys.length := by omega
            simp [List.getElem?_zipWith, hlt, this]
          rw [em] at d2
          injection e2 with e2
          injection e2 with e2 e4
          subst e2; subst e4
          rw [Nat.zero_add] at d2
          clear em q1 q2 q3
          have hlz : (k : Int) < (xs.length : Int) := by omega
          generalize xs[k]?.getD 0 = x at d1 d2 hx
          generalize ys[k]?.getD 0 = y at d3 d2 hx
          go_wp2
          go_quiet (fail)
          go_wp2
          go_roundw
          case rel => exact ⟨k + 1, by omega, by go_num, hcz.drewN _, below_drewN hbz _⟩
          case measure => simp [intOf]; omega
        · obtain rfl : k = xs.length := by omega
          go_wp2
          go_ret
          exact ⟨rfl, hcz.below⟩

theorem FieldRows_walk (by_ : Nat) (A : Option Addr) (c : Nat) (xs : List Nat) (A' : Option Addr) (c' : Nat) (ys : List Nat) (w : World) (hby : by_ < 256)
    (h : RowU8 w A xs ∧ xs.length ≤ 9223372036854775807) (h' : RowU8 w A' ys ∧ ys.length ≤ 9223372036854775807) :
    Calls Try.prog 6 #[.int .u8 by_, .slice A xs.length c, .slice A' ys.length c'] w fun e w' => e = .returned (.bool true) ∧ Below w.heap.size w w' := by
  by_cases h0 : 100 < xs.length ∨ 100 < ys.length
  · exact FieldRows_long by_ A c _ A' c' _ w h0 h.2 h'.2
  · by_cases he : ys.length = xs.length
    · rw [he]; exact FieldRows_same by_ A c xs A' c' ys w hby h.1 h'.1 (by omega) he
    · exact FieldRows_short by_ A c xs A' c' ys w hby h.1 (by omega) (by omega) (fun e => he e.symm)

end Go.Proofs.Ytfmccbijkagfnaa
