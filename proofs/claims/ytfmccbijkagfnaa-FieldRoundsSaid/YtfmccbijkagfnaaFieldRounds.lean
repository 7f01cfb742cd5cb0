/-
  The walk of the law FieldRounds: it returns true, and nothing that lay in memory has turned.
-/
import Derived.Test.YtfmccbijkagfnaaFieldRowsW
import Derived.Deep.RegionHeld3
import Derived.Deep.Cut
import Derived.Deep.CutRange
import Derived.Deep.DeepCutAuto
namespace Go.Proofs.Ytfmccbijkagfnaa
open Go.RowKit

theorem zip_twice {xs ys : List Nat} (h : ys.length = xs.length) : List.zipWith (· ^^^ ·) (List.zipWith (· ^^^ ·) xs ys) ys = xs := by
  induction xs generalizing ys with
  | nil => simp
  | cons x xs ih =>
    cases ys with
    | nil => simp at h
    | cons y ys =>
      simp only [List.zipWith_cons_cons]
      rw [Nat.xor_assoc, Nat.xor_self, Nat.xor_zero, ih (by simpa using h)]

theorem Plus_R {w0 w : World} {g : Nat} (A : Option Addr) (c n : Nat) (xs : List Nat) (A' : Option Addr) (c' n' : Nat) (ys zs : List Nat) (h : Ctx w0 g w) (hr : RowU8 w A xs) (hr' : RowU8 w A' ys) (hm : xs.length ≤ 281474976710656) (hn : n = xs.length) (hn' : n' = n) (he : ys.length = n) (hz : List.zipWith (· ^^^ ·) xs ys = zs) :
    Calls Try.prog 18 #[.pointer (some ⟨g, 0, none⟩), .slice A n c, .slice A' n' c'] w fun e w' =>
      ∃ B, e = .returned (.tuple #[.slice (some ⟨B, 0, none⟩) n n, .int .i64 0]) ∧ RowU8 w' (some ⟨B, 0, none⟩) zs ∧ Ctx w0 g w' ∧ Below w.heap.size w w' := by
  subst hn; subst hn'; subst hz
  exact Plus_ctx A c xs A' c' ys h hr hr' hm he

theorem conv_as (src dst : TypeId) (v : Value) : ∃ F : World → Result Value, ∀ w, (convert src dst v).run Try.prog w = F w := ⟨_, fun _ => rfl⟩
theorem Mul2_d {w0 w : World} {g : Nat} (a b R : Nat) (h : Ctx w0 g w) (ha : a < 256) (hb : b < 256) (hR : Gf.gm a b = R) :
    Calls Try.prog 11 #[.pointer (some ⟨g, 0, none⟩), .slice (some ⟨w.heap.size, 0, none⟩) 2 2] (w.alloc (.cells #[.int .u8 (a : Nat), .int .u8 (b : Nat)] 5)).drew fun e w' => e = .returned (.int .u8 (R : Nat)) ∧ Ctx w0 g w' :=
  Mul2 (w := w.drewN 1) a b R (h.drewN 1) ha hb hR

set_option maxRecDepth 100000 in
set_option linter.unusedSimpArgs false in
set_option maxHeartbeats 800000 in
theorem FieldRounds_go (by_ : Nat) (A : Option Addr) (c : Nat) (xs : List Nat) (A' : Option Addr) (c' : Nat) (ys : List Nat) (w : World) (hby : by_ < 256) (h0 : by_ ≠ 0) (hr : RowU8 w A xs) (hr' : RowU8 w A' ys) (hn : xs.length ≤ 100) (hn' : ys.length ≤ 100) :
    Calls Try.prog 8 #[.int .u8 by_, .slice A xs.length c, .slice A' ys.length c'] w fun e w' => e = .returned (.bool true) ∧ Below w.heap.size w w' := by
  obtain ⟨I, hI⟩ : ∃ I, Gf.gi by_ = I := ⟨_, rfl⟩
  have hI1 : Gf.gm 1 (Gf.gi by_) = I := by rw [Gf.one_gm (Gf.gi_lt _)]; exact hI
  have bI : I < 256 := by rw [← hI]; exact Gf.gi_lt _
  have hII : Gf.gm I by_ = 1 := by rw [← hI]; exact Gf.gi_gm hby h0
  have hback : (xs.map (Gf.gm by_)).map (Gf.gm I) = xs := by
    rw [List.map_map]
    conv => rhs; rw [← List.map_id xs]
    apply List.map_congr_left
    intro x hx
    have hx' := hr.lt x hx
    show Gf.gm I (Gf.gm by_ x) = x
    rw [← Gf.gm_assoc bI hby hx', hII, Gf.one_gm hx']
  have HI := Lib.hid (And.intro hI1 (And.intro hII hback))
  clear hI hI1 hII hback
  have hd1 : decide (100 < (xs.length : Int)) = false := by simp; omega
  have hd2 : decide (100 < (ys.length : Int)) = false := by simp; omega
  have e0 : ((by_ : Int) == 0) = false := by simp; omega
  go_enter Try.func8, Try.ntmps8
  go_wp2_with (fail)
  refine (awake_any w).mono ?_
  rintro e w1 ⟨rfl, h1⟩
  go_wp2_with (fail)
  refine (New_ctx w w1 h1).mono ?_
  rintro e w2 ⟨g, rfl, h2⟩
  go_wp2_with (fail)
  refine (Div_ctx 1 by_ I h2 (by omega) hby h0 HI.out.1).mono ?_
  rintro e w3 ⟨rfl, h3⟩
  have r3 := hr.below h3.below
  go_upto_region 5 with (fail)
  refine wp_region_held_drew (S := fun w' => (convert 35 9 (.slice A xs.length c)).run Try.prog w' = .ok (.string (bstr xs)) w') (by kernel_rfl) ?_ (fun hHeld => ?_)
  · exact str_of _ A xs (hr.below (h3.drewN 1).below) c
  refine wpAnyH_take (i := 0) (v := ?v0) rfl (by kernel_rfl) (by kernel_rfl) (by kernel_rfl) (fun _ _ _ h => h) (Or.inl ⟨by rfl, ?hy0⟩) (by assumption) ?rest0
  case hy0 => (intro w hSw; (try dsimp only at hSw); go_simp; try with_reducible rfl)
  try simp only [List.getElem_toArray, List.getElem_cons_succ, List.getElem_cons_zero, Act.put, List.setIfInBounds_toArray, List.set_cons_zero, List.set_cons_succ]
  refine wpAnyH_take (i := 1) (v := ?v1) rfl (by kernel_rfl) (by kernel_rfl) (by kernel_rfl) (fun _ _ _ h => h) (Or.inl ⟨by rfl, ?hy1⟩) (by assumption) ?rest1
  case hy1 => (intro w hSw; (try dsimp only at hSw); go_simp; try with_reducible rfl)
  try simp only [List.getElem_toArray, List.getElem_cons_succ, List.getElem_cons_zero, Act.put, List.setIfInBounds_toArray, List.set_cons_zero, List.set_cons_succ]
  refine wpAnyH_take (i := 2) (v := ?v2) rfl (by kernel_rfl) (by kernel_rfl) (by kernel_rfl) (fun _ _ _ h => h) (Or.inl ⟨by rfl, ?hy2⟩) (by assumption) ?rest2
  case hy2 => (intro w hSw; (try dsimp only at hSw); go_simp; try with_reducible rfl)
  try simp only [List.getElem_toArray, List.getElem_cons_succ, List.getElem_cons_zero, Act.put, List.setIfInBounds_toArray, List.set_cons_zero, List.set_cons_succ]
  refine wpAnyH_take (i := 3) (v := ?v3) rfl (by kernel_rfl) (by kernel_rfl) (by kernel_rfl) (fun _ _ _ h => h) (Or.inl ⟨by rfl, ?hy3⟩) (by assumption) ?rest3
  case hy3 => (intro w hSw; (try dsimp only at hSw); go_simp; try with_reducible rfl)
  try simp only [List.getElem_toArray, List.getElem_cons_succ, List.getElem_cons_zero, Act.put, List.setIfInBounds_toArray, List.set_cons_zero, List.set_cons_succ]
  refine wpAnyH_take (i := 4) (v := ?v4) rfl (by kernel_rfl) (by kernel_rfl) (by kernel_rfl) (fun _ _ _ h => h) (Or.inl ⟨by rfl, ?hy4⟩) (by assumption) ?rest4
  case hy4 => (intro w hSw; (try dsimp only at hSw); go_simp; try with_reducible rfl)
  try simp only [List.getElem_toArray, List.getElem_cons_succ, List.getElem_cons_zero, Act.put, List.setIfInBounds_toArray, List.set_cons_zero, List.set_cons_succ]
  refine wpAnyH_take (i := 5) (v := ?v5) rfl (by kernel_rfl) (by kernel_rfl) (by kernel_rfl) (fun _ _ _ h => h) (Or.inl ⟨by rfl, ?hy5⟩) (by assumption) ?rest5
  case hy5 => (intro w hSw; (try dsimp only at hSw); go_simp; try with_reducible rfl)
  try simp only [List.getElem_toArray, List.getElem_cons_succ, List.getElem_cons_zero, Act.put, List.setIfInBounds_toArray, List.set_cons_zero, List.set_cons_succ]
  refine wpAnyH_ready (rs := [6]) (by kernel_rfl) (by simp) ?_
  refine AllReadyH.cons rfl (fun K hK => ?_) AllReadyH.nil
  go_simp
  refine hK.out _ _ ?_ (fun hHeld => ?_)
  · exact str_of _ A xs (hr.below ((h3.alloc _).drewN 1).below) c
  clear hK K
  try simp only [List.getElem_toArray, List.getElem_cons_succ, List.getElem_cons_zero, Act.put, List.setIfInBounds_toArray, List.set_cons_zero, List.set_cons_succ]
  refine wpAnyH_ready (rs := [7]) (by kernel_rfl) (by simp) ?_
  refine AllReadyH.cons rfl (fun K hK => ?_) AllReadyH.nil
  go_simp
  refine (Mul2_d I by_ 1 h3 bI hby HI.out.2.1).mono ?_
  rintro e w4 ⟨rfl, h4⟩
  refine hK.out _ _ ?_ (fun hHeld => ?_)
  · exact str_of _ A xs (hr.below h4.below) c
  clear hK K
  try simp only [List.getElem_toArray, List.getElem_cons_succ, List.getElem_cons_zero, Act.put, List.setIfInBounds_toArray, List.set_cons_zero, List.set_cons_succ]
  refine wpAnyH_take (i := 8) (v := ?v6) rfl (by kernel_rfl) (by kernel_rfl) (by kernel_rfl) (fun _ _ _ h => h) (Or.inl ⟨by rfl, ?hy6⟩) (by assumption) ?rest6
  case hy6 => (intro w hSw; (try dsimp only at hSw); go_simp; try with_reducible rfl)
  try simp only [List.getElem_toArray, List.getElem_cons_succ, List.getElem_cons_zero, Act.put, List.setIfInBounds_toArray, List.set_cons_zero, List.set_cons_succ]
  refine wpAnyH_take (i := 9) (v := ?v7) rfl (by kernel_rfl) (by kernel_rfl) (by kernel_rfl) (fun _ _ _ h => h) (Or.inl ⟨by rfl, ?hy7⟩) (by assumption) ?rest7
  case hy7 => (intro w hSw; (try dsimp only at hSw); go_simp; try with_reducible rfl)
  try simp only [List.getElem_toArray, List.getElem_cons_succ, List.getElem_cons_zero, Act.put, List.setIfInBounds_toArray, List.set_cons_zero, List.set_cons_succ]
  refine wpAnyH_take (i := 10) (v := ?v8) rfl (by kernel_rfl) (by kernel_rfl) (by kernel_rfl) (fun _ _ _ h => h) (Or.inl ⟨by rfl, ?hy8⟩) (by assumption) ?rest8
  case hy8 => (intro w hSw; (try dsimp only at hSw); go_simp; try with_reducible rfl)
  try simp only [List.getElem_toArray, List.getElem_cons_succ, List.getElem_cons_zero, Act.put, List.setIfInBounds_toArray, List.set_cons_zero, List.set_cons_succ]
  refine wpAnyH_take (i := 11) (v := ?v9) rfl (by kernel_rfl) (by kernel_rfl) (by kernel_rfl) (fun _ _ _ h => h) (Or.inl ⟨by rfl, ?hy9⟩) (by assumption) ?rest9
  case hy9 => (intro w hSw; (try dsimp only at hSw); go_simp; try with_reducible rfl)
  try simp only [List.getElem_toArray, List.getElem_cons_succ, List.getElem_cons_zero, Act.put, List.setIfInBounds_toArray, List.set_cons_zero, List.set_cons_succ]
  refine wpAnyH_take (i := 12) (v := ?v10) rfl (by kernel_rfl) (by kernel_rfl) (by kernel_rfl) (fun _ _ _ h => h) (Or.inl ⟨by rfl, ?hy10⟩) (by assumption) ?rest10
  case hy10 => (intro w hSw; (try dsimp only at hSw); go_simp; try with_reducible rfl)
  try simp only [List.getElem_toArray, List.getElem_cons_succ, List.getElem_cons_zero, Act.put, List.setIfInBounds_toArray, List.set_cons_zero, List.set_cons_succ]
  refine wpAnyH_take (i := 13) (v := ?v11) rfl (by kernel_rfl) (by kernel_rfl) (by kernel_rfl) (fun _ _ _ h => h) (Or.inl ⟨by rfl, ?hy11⟩) (by assumption) ?rest11
  case hy11 => (intro w hSw; (try dsimp only at hSw); go_simp; try with_reducible rfl)
  try simp only [List.getElem_toArray, List.getElem_cons_succ, List.getElem_cons_zero, Act.put, List.setIfInBounds_toArray, List.set_cons_zero, List.set_cons_succ]
  refine wpAnyH_take (i := 14) (v := ?v12) rfl (by kernel_rfl) (by kernel_rfl) (by kernel_rfl) (fun _ _ _ h => h) (Or.inl ⟨by rfl, ?hy12⟩) (by assumption) ?rest12
  case hy12 => (intro w hSw; (try dsimp only at hSw); go_simp; try with_reducible rfl)
  try simp only [List.getElem_toArray, List.getElem_cons_succ, List.getElem_cons_zero, Act.put, List.setIfInBounds_toArray, List.set_cons_zero, List.set_cons_succ]
  refine wpAnyH_take (i := 15) (v := ?v13) rfl (by kernel_rfl) (by kernel_rfl) (by kernel_rfl) (fun _ _ _ h => h) (Or.inl ⟨by rfl, ?hy13⟩) (by assumption) ?rest13
  case hy13 => (intro w hSw; (try dsimp only at hSw); go_simp; try with_reducible rfl)
  try simp only [List.getElem_toArray, List.getElem_cons_succ, List.getElem_cons_zero, Act.put, List.setIfInBounds_toArray, List.set_cons_zero, List.set_cons_succ]
  refine wpAnyH_take (i := 19) (v := ?v14) rfl (by kernel_rfl) (by kernel_rfl) (by kernel_rfl) (fun _ _ _ h => h) (Or.inl ⟨by rfl, ?hy14⟩) (by assumption) ?rest14
  case hy14 => (intro w hSw; (try dsimp only at hSw); go_simp; try with_reducible rfl)
  try simp only [List.getElem_toArray, List.getElem_cons_succ, List.getElem_cons_zero, Act.put, List.setIfInBounds_toArray, List.set_cons_zero, List.set_cons_succ]
  refine wpAnyH_take (i := 20) (v := ?v15) rfl (by kernel_rfl) (by kernel_rfl) (by kernel_rfl) (fun _ _ _ h => h) (Or.inl ⟨by rfl, ?hy15⟩) (by assumption) ?rest15
  case hy15 => (intro w hSw; (try dsimp only at hSw); go_simp; try with_reducible rfl)
  try simp only [List.getElem_toArray, List.getElem_cons_succ, List.getElem_cons_zero, Act.put, List.setIfInBounds_toArray, List.set_cons_zero, List.set_cons_succ]
  have r4 := hr.below h4.below
  refine wpAnyH_ready (rs := [16]) (by kernel_rfl) (by simp) ?_
  refine AllReadyH.cons rfl (fun K hK => ?_) AllReadyH.nil
  go_simp
  refine (Scale_ctx by_ A c xs h4 hby r4 (by omega)).mono ?_
  rintro e w5 ⟨B, rfl, r5, h5, b5⟩
  refine hK.out _ _ ?_ (fun hHeld => ?_)
  · exact str_of _ A xs (hr.below h5.below) c
  clear hK K
  try simp only [List.getElem_toArray, List.getElem_cons_succ, List.getElem_cons_zero, Act.put, List.setIfInBounds_toArray, List.set_cons_zero, List.set_cons_succ]
  have sc := Scale_ctx I (some ⟨B, 0, none⟩) xs.length (xs.map (Gf.gm by_)) h5 bI r5 (by simp; omega)
  rw [HI.out.2.2, List.length_map] at sc
  refine wpAnyH_ready (rs := [17]) (by kernel_rfl) (by simp) ?_
  refine AllReadyH.cons rfl (fun K hK => ?_) AllReadyH.nil
  go_simp
  refine sc.mono ?_
  rintro e w6 ⟨B6, rfl, r6, h6, b6⟩
  refine hK.out _ _ ?_ (fun hHeld => ?_)
  · exact str_of _ A xs (hr.below h6.below) c
  clear hK K
  try simp only [List.getElem_toArray, List.getElem_cons_succ, List.getElem_cons_zero, Act.put, List.setIfInBounds_toArray, List.set_cons_zero, List.set_cons_succ]
  have cv7 := str_of w6 _ xs r6 xs.length
  refine wpAnyH_ready (rs := [18]) (by kernel_rfl) (by simp) ?_
  refine AllReadyH.cons rfl (fun K hK => ?_) AllReadyH.nil
  go_simp
  refine hK.out _ _ ?_ (fun hHeld => ?_)
  · exact str_of _ A xs (hr.below h6.below) c
  clear hK K
  try simp only [List.getElem_toArray, List.getElem_cons_succ, List.getElem_cons_zero, Act.put, List.setIfInBounds_toArray, List.set_cons_zero, List.set_cons_succ]
  refine wpAnyH_take (i := 21) (v := ?v16) rfl (by kernel_rfl) (by kernel_rfl) (by kernel_rfl) (fun _ _ _ h => h) (Or.inl ⟨by rfl, ?hy16⟩) (by assumption) ?rest16
  case hy16 => (intro w hSw; (try dsimp only at hSw); go_simp; try with_reducible rfl)
  try simp only [List.getElem_toArray, List.getElem_cons_succ, List.getElem_cons_zero, Act.put, List.setIfInBounds_toArray, List.set_cons_zero, List.set_cons_succ]
  refine wpAnyH_take (i := 22) (v := ?v17) rfl (by kernel_rfl) (by kernel_rfl) (by kernel_rfl) (fun _ _ _ h => h) (Or.inl ⟨by rfl, ?hy17⟩) (by assumption) ?rest17
  case hy17 => (intro w hSw; (try dsimp only at hSw); go_simp; try with_reducible rfl)
  try simp only [List.getElem_toArray, List.getElem_cons_succ, List.getElem_cons_zero, Act.put, List.setIfInBounds_toArray, List.set_cons_zero, List.set_cons_succ]
  refine wpAnyH_done (by kernel_rfl) ?_ _
  by_cases he : ys.length = xs.length
  · have Hcv := Lib.hid cv7
    clear cv7 hHeld
    have t1 : ((xs.length : Int) != (ys.length : Int)) = false := by simp; omega
    have t2 : (xs.length != ys.length) = false := by simp; omega
    have HY := Lib.hid he
    clear he
    go_wp2_with (fail)
    have r6b := hr'.below h6.below
    have hl0 : (List.zipWith (· ^^^ ·) xs ys).length = xs.length := by simp [List.length_zipWith]; have := HY.out; omega
    refine (Plus_R A c xs.length xs A' c' ys.length ys (List.zipWith (· ^^^ ·) xs ys) h6 (hr.below h6.below) r6b (by omega) rfl HY.out HY.out rfl).mono ?_
    rintro e w7 ⟨B7, rfl, r7, h7, b7⟩
    have HZ := Lib.hid hl0
    clear hl0
    go_wp2_with (fail)
    refine (Plus_R (some ⟨B7, 0, none⟩) xs.length xs.length (List.zipWith (· ^^^ ·) xs ys) A' c' ys.length ys xs h7 r7 (r6b.below b7) (by rw [HZ.out]; omega) HZ.out.symm HY.out HY.out (zip_twice HY.out)).mono ?_
    rintro e w8 ⟨B8, rfl, r8, h8, b8⟩
    have cv8 := str_of w8 _ xs r8 xs.length
    have cv9 := str_of w8 A xs (hr.below h8.below) c
    go_wp2
    go_ret
    exact ⟨rfl, h8.below⟩
  · have t1 : ((xs.length : Int) != (ys.length : Int)) = true := by simp; omega
    have t2 : (xs.length != ys.length) = true := by simp; omega
    clear hHeld cv7
    go_wp2
    go_ret
    exact ⟨rfl, h6.below⟩


set_option maxRecDepth 100000 in
set_option maxHeartbeats 1000000 in
theorem FieldRounds_out (by_ : Nat) (A : Option Addr) (c n : Nat) (A' : Option Addr) (c' n' : Nat) (w : World) (h : 100 < n ∨ 100 < n' ∨ by_ = 0) (hby : by_ < 256) (hm : n ≤ 9223372036854775807) (hm' : n' ≤ 9223372036854775807) :
    Calls Try.prog 8 #[.int .u8 by_, .slice A n c, .slice A' n' c'] w fun e w' => e = .returned (.bool true) ∧ Below w.heap.size w w' := by
  by_cases h0 : 100 < n
  · go_enter Try.func8, Try.ntmps8
    go_wp2_with (fail)
    refine (awake_any w).mono ?_
    rintro e w1 ⟨rfl, h1⟩
    go_wp2_with (fail)
    refine (awake_any w1).mono ?_
    rintro e w2 ⟨rfl, h2⟩
    go_wp2
    go_ret
    exact ⟨rfl, h1.trans (h2.mono h1.size)⟩
  · by_cases h1 : 100 < n'
    · go_enter Try.func8, Try.ntmps8
      go_wp2_with (fail)
      refine (awake_any w).mono ?_
      rintro e w1 ⟨rfl, h1⟩
      go_wp2_with (fail)
      refine (awake_any w1).mono ?_
      rintro e w2 ⟨rfl, h2⟩
      go_wp2
      go_ret
      exact ⟨rfl, h1.trans (h2.mono h1.size)⟩
    · obtain rfl : by_ = 0 := by omega
      go_enter Try.func8, Try.ntmps8
      go_wp2_with (fail)
      refine (awake_any w).mono ?_
      rintro e w1 ⟨rfl, h1⟩
      go_wp2_with (fail)
      refine (awake_any w1).mono ?_
      rintro e w2 ⟨rfl, h2⟩
      go_wp2
      go_ret
      exact ⟨rfl, h1.trans (h2.mono h1.size)⟩

theorem FieldRounds_walk (by_ : Nat) (A : Option Addr) (c : Nat) (xs : List Nat) (A' : Option Addr) (c' : Nat) (ys : List Nat) (w : World) (hby : by_ < 256)
    (h : RowU8 w A xs ∧ xs.length ≤ 9223372036854775807) (h' : RowU8 w A' ys ∧ ys.length ≤ 9223372036854775807) :
    Calls Try.prog 8 #[.int .u8 by_, .slice A xs.length c, .slice A' ys.length c'] w fun e w' => e = .returned (.bool true) ∧ Below w.heap.size w w' := by
  by_cases h0 : 100 < xs.length ∨ 100 < ys.length ∨ by_ = 0
  · exact FieldRounds_out by_ A c _ A' c' _ w h0 hby h.2 h'.2
  · exact FieldRounds_go by_ A c xs A' c' ys w hby (by omega) h.1 h'.1 (by omega) (by omega)

end Go.Proofs.Ytfmccbijkagfnaa
