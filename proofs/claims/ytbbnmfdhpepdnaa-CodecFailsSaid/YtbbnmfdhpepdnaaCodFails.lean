/-
  The walk of CodecFails.
-/
import Derived.Test.YtbbnmfdhpepdnaaCodAw
namespace Go.Proofs.Ytbbnmfdhpepdnaa
open Go.RowKit

/-- what is told of an error that somebody ends a reading with -/
def told (c : Int) : Int := if c = 0 then 6 else c

theorem failsG_any (S g by_ bh : Nat) (y : Int) (A : Option Addr) (w0 wr : World) (hy : wr.heap[by_]? = some (.cells #[.int .i64 y] 23 (0, 0))) (hb : Below S w0 wr) :
    Calls Try.prog 10 #[.pointer (some ⟨g, 0, none⟩), .pointer (some ⟨by_, 0, none⟩), .pointer (some ⟨bh, 0, none⟩)] wr
      (FnPost S g A wr (fun _ _ => False) (fun code w1 => code = told y ∧ ∀ k, k < S → w1.heap[k]? = w0.heap[k]?)) := by
  have cy := cell_of_row wr by_ 0 _ _ _ hy
  have H := Lib.hid hb
  clear hy hb
  go_enter Try.func10, Try.ntmps10
  go_wp2_with (fail)
  refine (Fail_any g y (told y) rfl wr).mono ?_
  rintro e w1 ⟨rfl, rfl⟩
  go_wp2
  exact ⟨rfl, rfl, rfl, rfl, Nat.le_refl _, fun _ _ _ _ _ => rfl, .inr ⟨_, rfl, rfl, fun k hk => H.out.block k hk⟩⟩

theorem num9 : numT 9 0 0 [1, 2] = .ok (1, [2]) := rfl

set_option maxRecDepth 100000 in
set_option maxHeartbeats 1000000 in
theorem failsF_any (S g b5 b8 b10 b9 b7 : Nat) (x y : Int) (inner : Bool) (A : Option Addr) (c : Nat) (w0 wr : World) (h : Rd wr g A c [1, 2])
    (h5 : wr.heap[b5]? = some (.cells #[.bool inner] 4 (0, 0))) (h8 : wr.heap[b8]? = some (.cells #[.int .i64 y] 23 (0, 0))) (h9 : wr.heap[b9]? = some (.cells #[.int .i64 (-1)] 23 (0, 0)))
    (h7 : wr.heap[b7]? = some (.cells #[.int .i64 x] 23 (0, 0)))
    (hb : Below S w0 wr) (hS : S ≤ wr.heap.size) (hlt : b5 < S ∧ b8 < S ∧ b9 < S ∧ b7 < S) (hne : b5 ≠ b9 ∧ b8 ≠ b9 ∧ b7 ≠ b9) (hgS : S ≤ g) (hA : ∀ a, A = some a → S ≤ a.block) :
    Calls Try.prog 9 #[.pointer (some ⟨g, 0, none⟩), .pointer (some ⟨b5, 0, none⟩), .pointer (some ⟨b8, 0, none⟩), .pointer (some ⟨b10, 0, none⟩), .pointer (some ⟨b9, 0, none⟩), .pointer (some ⟨b7, 0, none⟩)] wr
      (FnPost S g A wr (fun _ _ => False) (fun code w1 => code = told x ∧ (∀ k, k < S → k ≠ b9 → w1.heap[k]? = w0.heap[k]?) ∧ (inner = true → w1.heap[b9]? = some (.cells #[.int .i64 (told y)] 23 (0, 0))))) := by
  have hmf : ∀ (fn : Fn) (first cap : Array Value) (w : World), (Instr.makeFunc fn first cap).run Try.prog w = .ok (.func fn first cap) w := fun _ _ _ _ => rfl
  have c5 := cell_of_row wr b5 0 _ _ _ h5
  cases inner with
  | false =>
    have c7 := cell_of_row wr b7 0 _ _ _ h7
    have H := Lib.hid hb
    clear h h5 h7 h8 h9 hb
    go_enter Try.func9, Try.ntmps9
    go_wp2_with (fail)
    refine (Fail_any g x (told x) rfl wr).mono ?_
    rintro e w1 ⟨rfl, rfl⟩
    go_wp2
    exact ⟨rfl, rfl, rfl, rfl, Nat.le_refl _, fun _ _ _ _ _ => rfl, .inr ⟨_, rfl, rfl, fun k hk _ => H.out.block k hk, fun e => by cases e⟩⟩
  | true =>
    have hrow3 : ∀ w : World, RowU8 (w.alloc (.cells #[.int .u8 3] 5)) (some ⟨w.heap.size, 0, none⟩) [3] := fun w => row_of_block (heap_alloc_new w _) (by simp)
    have HR := Lib.hid (Read_any (.func 10) 10 rfl #[.pointer (some ⟨b8, 0, none⟩), .pointer (some ⟨b10, 0, none⟩)] (some ⟨wr.heap.size, 0, none⟩) 1 [3] (wr.alloc (.cells #[.int .u8 3] 5)) (hrow3 wr) (by decide)
      (fun _ _ => False) (fun code w1 => code = told y ∧ ∀ k, k < wr.heap.size + 1 → w1.heap[k]? = (wr.alloc (.cells #[.int .u8 3] 5)).heap[k]?) (fun args w => by kernel_rfl) (fun w2 g' A' c' hrd hbw hg hA => by
        have hs : (wr.alloc (.cells #[.int .u8 3] 5)).heap.size = wr.heap.size + 1 := by simp
        rw [hs] at hbw hg hA ⊢
        have hl := (Array.getElem?_eq_some_iff.1 h8).1
        exact failsG_any (wr.heap.size + 1) g' b8 b10 y A' (wr.alloc (.cells #[.int .u8 3] 5)) w2 ((hbw.block _ (by omega)).trans ((Below.heap_alloc wr _ _ hl).trans h8)) hbw))
    have H := Lib.hid (And.intro hb (And.intro h (And.intro h7 h9)))
    clear h h5 h7 h8 h9 hb hrow3
    go_enter Try.func9, Try.ntmps9
    go_wp2_with (fail)
    refine HR.out.mono ?_
    clear HR
    rintro e w3 ⟨w4, hos, htape, hout, hsz, hb34, hcase⟩
    rcases hcase with ⟨_, _, hF⟩ | ⟨code, rfl, rfl, hk⟩
    · exact hF.elim
    have hs : (wr.alloc (.cells #[.int .u8 3] 5)).heap.size = wr.heap.size + 1 := by simp
    rw [hs] at hb34 hsz
    have hold : Below wr.heap.size wr w3 := ⟨hb34.os.trans hos, hb34.tape.trans htape, hb34.output.trans hout, by have := hb34.size; omega, fun k hkk =>
      (hb34.block k (by omega)).trans ((hk k (by omega)).trans (Below.heap_alloc wr _ k hkk))⟩
    have h9 : w3.heap[b9]? = some (.cells #[.int .i64 (-1)] 23 (0, 0)) := (hold.block _ (by omega)).trans H.out.2.2.2
    have c9 := cell_of_row w3 b9 0 _ _ _ h9
    have f9 := frozen_of_row w3 b9 0 _ _ h9
    have h9n := heap_setCell_same w3 b9 0 _ _ (.int .i64 (told y)) h9
    have hrd : Rd (w3.setCell ⟨b9, 0, none⟩ (.int .i64 (told y))) g A c [1, 2] := (H.out.2.1.below hold).move (heap_setCell_other _ _ _ _ (by show g ≠ b9; omega)) (fun a ha _ => heap_setCell_other _ _ _ _ (by have := hA a ha; show a.block ≠ b9; omega))
    have h7n : (w3.setCell ⟨b9, 0, none⟩ (.int .i64 (told y))).heap[b7]? = some (.cells #[.int .i64 x] 23 (0, 0)) := (heap_setCell_other _ _ _ _ hne.2.2).trans ((hold.block _ (by omega)).trans H.out.2.2.1)
    obtain ⟨w5, hw5⟩ : ∃ w5, w3.setCell ⟨b9, 0, none⟩ (.int .i64 (told y)) = w5 := ⟨_, rfl⟩
    have hkeep5 : ∀ k, k < wr.heap.size → k ≠ b9 → w5.heap[k]? = wr.heap[k]? := fun k hkk hk9 => by rw [← hw5]; exact (heap_setCell_other _ _ _ _ hk9).trans (hold.block k hkk)
    have hw5s : wr.heap.size ≤ w5.heap.size := by rw [← hw5]; simpa [World.setCell] using hold.size
    have h5o : w5.os = wr.os ∧ w5.tape = wr.tape ∧ w5.output = wr.output := by rw [← hw5]; exact ⟨hold.os, hold.tape, hold.output⟩
    rw [hw5] at h9n hrd h7n
    have HNum := Lib.hid (Number_any g A c [1, 2] 9 w5 hrd)
    have HX := Lib.hid (And.intro h9n (And.intro h7n (And.intro hkeep5 (And.intro hw5s h5o))))
    clear hos htape hout hsz hb34 hk hs hold h9 h9n hrd h7n hkeep5 hw5s h5o
    go_wp2_with (fail)
    clear hw5
    refine HNum.out.mono ?_
    clear HNum
    rintro e w6 ⟨hk6, hp⟩
    rw [num9] at hp
    obtain ⟨rfl, A2, c2, hrd2, -⟩ := hp
    have h76 := (hk6.block b7 (by have := HX.out.2.2.2.1; omega) (by omega)).trans HX.out.2.1
    have c7 := cell_of_row w6 b7 0 _ _ _ h76
    have HK := Lib.hid hk6
    clear hk6 h76 hrd2 c5 c9 f9
    go_wp2_with (fail)
    refine (Fail_any g x (told x) rfl w6).mono ?_
    rintro e w7 ⟨rfl, rfl⟩
    go_wp2
    have hk6 := HK.out
    obtain ⟨h9n, h7n, hkeep5, hw5s, h5o⟩ := HX.out
    refine ⟨rfl, hk6.os.trans h5o.1, hk6.tape.trans h5o.2.1, hk6.output.trans h5o.2.2, Nat.le_trans hw5s hk6.size, fun k h1 h2 h3 _ => (hk6.block k (by omega) h3).trans (hkeep5 k h2 (by omega)), .inr ⟨_, rfl, rfl, fun k hk hk9 => ?_, fun _ => ?_⟩⟩
    · exact (hk6.block k (by omega) (by omega)).trans ((hkeep5 k (by omega) hk9).trans (H.out.1.block k hk))
    · exact (hk6.block b9 (by omega) (by omega)).trans h9n

set_option maxRecDepth 100000 in
set_option maxHeartbeats 2000000 in
theorem fails_walk (a b : Nat) (inner : Bool) (w : World) (ha : a < 256) (hb : b < 256) :
    Calls Try.prog 3 #[.int .u8 (a : Int), .int .u8 (b : Int), .bool inner] w fun e w' => e = .returned (.bool true) ∧ Below w.heap.size w w' := by
  have hmf : ∀ (fn : Fn) (first cap : Array Value) (w : World), (Instr.makeFunc fn first cap).run Try.prog w = .ok (.func fn first cap) w := fun _ _ _ _ => rfl
  have ea : (a : Int) % 15 = ((a % 15 : Nat) : Int) := by omega
  have eb : (b : Int) % 15 = ((b % 15 : Nat) : Int) := by omega
  have hx15 : a % 15 < 15 := Nat.mod_lt _ (by decide)
  have hy15 : b % 15 < 15 := Nat.mod_lt _ (by decide)
  go_enter Try.func3, Try.ntmps3
  go_wp2_with (fail)
  refine (awake_any _).mono ?_
  rintro e w1 ⟨rfl, hb1⟩
  generalize a % 15 = x at *
  generalize b % 15 = y at *
  have h5 : w1.heap[w.heap.size]? = some (.cells #[.bool inner] 4 (0, 0)) := (hb1.block _ (by simp)).trans (heap_alloc_new w _)
  have hs1 : w.heap.size + 1 ≤ w1.heap.size := by have := hb1.size; simpa using this
  have hbw1 : Below w.heap.size w w1 := ((Below.refl _ w).alloc (Nat.le_refl _) _).trans (hb1.mono (by simp))
  clear hb1
  obtain ⟨W, hW⟩ : ∃ W, ((((w1.alloc (.cells #[.int .i64 (x : Int)] 23)).alloc (.cells #[.int .i64 (y : Int)] 23)).alloc (.cells #[.int .i64 (-1)] 23)).alloc (.cells #[.bool false] 4)).alloc (.cells #[.int .u8 1, .int .u8 2] 5) = W := ⟨_, rfl⟩
  have hsW : W.heap.size = w1.heap.size + 5 := by rw [← hW]; simp
  have hbW : Below w1.heap.size w1 W := by rw [← hW]; exact (((((Below.refl _ _).alloc (Nat.le_refl _) _).alloc (by simp) _).alloc (by simp; omega) _).alloc (by simp; omega) _).alloc (by simp; omega) _
  have h7 : W.heap[w1.heap.size]? = some (.cells #[.int .i64 (x : Int)] 23 (0, 0)) := by rw [← hW]; simp only [heap_alloc_get, heap_alloc_sz]; repeat (first | rw [if_pos trivial] | rw [if_pos (by omega)] | rw [if_neg (by omega)])
  have h8 : W.heap[w1.heap.size + 1]? = some (.cells #[.int .i64 (y : Int)] 23 (0, 0)) := by rw [← hW]; simp only [heap_alloc_get, heap_alloc_sz]; repeat (first | rw [if_pos trivial] | rw [if_pos (by omega)] | rw [if_neg (by omega)])
  have h9 : W.heap[w1.heap.size + 1 + 1]? = some (.cells #[.int .i64 (-1)] 23 (0, 0)) := by rw [← hW]; simp only [heap_alloc_get, heap_alloc_sz]; repeat (first | rw [if_pos trivial] | rw [if_pos (by omega)] | rw [if_neg (by omega)])
  have h10 : W.heap[w1.heap.size + 1 + 1 + 1]? = some (.cells #[.bool false] 4 (0, 0)) := by rw [← hW]; simp only [heap_alloc_get, heap_alloc_sz]; repeat (first | rw [if_pos trivial] | rw [if_pos (by omega)] | rw [if_neg (by omega)])
  have hrow : RowU8 W (some ⟨w1.heap.size + 1 + 1 + 1 + 1, 0, none⟩) [1, 2] := by
    refine row_of_block (t := 5) (fr := (0, 0)) ?_ (by simp)
    rw [← hW]; simp only [heap_alloc_get, heap_alloc_sz]; repeat (first | rw [if_pos trivial] | rw [if_pos (by omega)] | rw [if_neg (by omega)])
    rfl
  have h5W := (hbW.block w.heap.size (by omega)).trans h5
  generalize hq : w1.heap.size = q at *
  have HR := Lib.hid (Read_any (.func 9) 9 rfl #[.pointer (some ⟨w.heap.size, 0, none⟩), .pointer (some ⟨q + 1, 0, none⟩), .pointer (some ⟨q + 1 + 1 + 1, 0, none⟩), .pointer (some ⟨q + 1 + 1, 0, none⟩), .pointer (some ⟨q, 0, none⟩)] (some ⟨q + 1 + 1 + 1 + 1, 0, none⟩) 2 [1, 2] W hrow (by decide)
    (fun _ _ => False) (fun code w1 => code = told x ∧ (∀ k, k < q + 5 → k ≠ q + 1 + 1 → w1.heap[k]? = W.heap[k]?) ∧ (inner = true → w1.heap[q + 1 + 1]? = some (.cells #[.int .i64 (told y)] 23 (0, 0)))) (fun args w => by kernel_rfl) (fun w2 g' A' c' hrd hbw hg hA => by
      rw [hsW] at hbw hg hA ⊢
      exact failsF_any (q + 5) g' w.heap.size (q + 1) (q + 1 + 1 + 1) (q + 1 + 1) q x y inner A' c' W w2 hrd ((hbw.block _ (by omega)).trans h5W) ((hbw.block _ (by omega)).trans h8) ((hbw.block _ (by omega)).trans h9) ((hbw.block _ (by omega)).trans h7) hbw (by have := hbw.size; rw [hsW] at this; exact this) ⟨by omega, by omega, by omega, by omega⟩ ⟨by omega, by omega, by omega⟩ hg hA))
  have HB := Lib.hid (And.intro (hbw1.trans (hbW.mono (by omega))) (And.intro h5W (And.intro h7 (And.intro h8 h10))))
  clear h5 h5W h7 h8 h9 h10 hrow hbW hbw1
  go_wp2_with (fail)
  clear hW
  refine HR.out.mono ?_
  clear HR
  rintro e w3 ⟨w4, hos, htape, hout, hsz, hb34, hcase⟩
  rcases hcase with ⟨_, _, hF⟩ | ⟨code, rfl, rfl, hk, hin⟩
  · exact hF.elim
  rw [hsW] at hb34 hsz
  obtain ⟨hbW, h5, h7, h8, h10⟩ := HB.out
  have hk3 : ∀ k, k < q + 5 → k ≠ q + 1 + 1 → w3.heap[k]? = W.heap[k]? := fun k h1 h2 => (hb34.block k h1).trans (hk k h1 h2)
  have h5 := (hk3 w.heap.size (by omega) (by omega)).trans h5
  have h7 := (hk3 q (by omega) (by omega)).trans h7
  have h8 := (hk3 (q + 1) (by omega) (by omega)).trans h8
  have h10 := (hk3 (q + 1 + 1 + 1) (by omega) (by omega)).trans h10
  have h9 : inner = true → w3.heap[q + 1 + 1]? = some (.cells #[.int .i64 (told y)] 23 (0, 0)) := fun e => (hb34.block _ (by omega)).trans (hin e)
  have hbel : Below w.heap.size w w3 := hbW.trans ⟨hb34.os.trans hos, hb34.tape.trans htape, hb34.output.trans hout, by have := hb34.size; omega, fun k hkk => hk3 k (by omega) (by omega)⟩
  have HZ := Lib.hid hbel
  clear hos htape hout hsz hb34 hk hin hk3 hbW hbel HB
  have c7 := cell_of_row w3 q 0 _ _ _ h7
  have c8 := cell_of_row w3 (q + 1) 0 _ _ _ h8
  have c10 := cell_of_row w3 (q + 1 + 1 + 1) 0 _ _ _ h10
  have f7 := frozen_of_row w3 q 0 _ _ h7
  have f8 := frozen_of_row w3 (q + 1) 0 _ _ h8
  have hne : ¬ w.heap.size = q := by omega
  have hne1 : ¬ w.heap.size = q + 1 := by omega
  cases inner
  · have c5 := cell_of_row w3 w.heap.size 0 _ _ _ h5
    clear h5 h7 h8 h9 h10
    by_cases hx : x = 0
    all_goals by_cases hy : y = 0
    · subst hx; have hx : told ((0 : Nat) : Int) = 6 := rfl
      subst hy; have hy : told ((0 : Nat) : Int) = 6 := rfl
      rw [hx]
      clear hx hy ea eb
      go_wp2
      go_ret
      exact ⟨rfl, (HZ.out.setCell (p := ⟨q, 0, none⟩) (by simp; omega) _).setCell (p := ⟨q + 1, 0, none⟩) (by simp; omega) _⟩
    · subst hx; have hx : told ((0 : Nat) : Int) = 6 := rfl
      have ty : ((y : Int) == 0) = false := by simp; omega
      have hy : told (y : Int) = (y : Int) := if_neg (by omega)
      rw [hx]
      clear hx hy ea eb
      go_wp2
      go_ret
      exact ⟨rfl, HZ.out.setCell (p := ⟨q, 0, none⟩) (by simp; omega) _⟩
    · have tx : ((x : Int) == 0) = false := by simp; omega
      have hx : told (x : Int) = (x : Int) := if_neg (by omega)
      subst hy; have hy : told ((0 : Nat) : Int) = 6 := rfl
      rw [hx]
      clear hx hy ea eb
      go_wp2
      go_ret
      exact ⟨rfl, HZ.out.setCell (p := ⟨q + 1, 0, none⟩) (by simp; omega) _⟩
    · have tx : ((x : Int) == 0) = false := by simp; omega
      have hx : told (x : Int) = (x : Int) := if_neg (by omega)
      have ty : ((y : Int) == 0) = false := by simp; omega
      have hy : told (y : Int) = (y : Int) := if_neg (by omega)
      rw [hx]
      clear hx hy ea eb
      go_wp2
      go_ret
      exact ⟨rfl, HZ.out⟩
  · have c5 := cell_of_row w3 w.heap.size 0 _ _ _ h5
    have c9 := cell_of_row w3 (q + 1 + 1) 0 _ _ _ (h9 rfl)
    clear h5 h7 h8 h9 h10
    by_cases hx : x = 0
    all_goals by_cases hy : y = 0
    · subst hx; have hx : told ((0 : Nat) : Int) = 6 := rfl
      subst hy; have hy : told ((0 : Nat) : Int) = 6 := rfl
      rw [hx]
      rw [hy] at c9
      clear hx hy ea eb
      go_wp2
      go_ret
      exact ⟨rfl, (HZ.out.setCell (p := ⟨q, 0, none⟩) (by simp; omega) _).setCell (p := ⟨q + 1, 0, none⟩) (by simp; omega) _⟩
    · subst hx; have hx : told ((0 : Nat) : Int) = 6 := rfl
      have ty : ((y : Int) == 0) = false := by simp; omega
      have hy : told (y : Int) = (y : Int) := if_neg (by omega)
      rw [hx]
      rw [hy] at c9
      clear hx hy ea eb
      go_wp2
      go_ret
      exact ⟨rfl, HZ.out.setCell (p := ⟨q, 0, none⟩) (by simp; omega) _⟩
    · have tx : ((x : Int) == 0) = false := by simp; omega
      have hx : told (x : Int) = (x : Int) := if_neg (by omega)
      subst hy; have hy : told ((0 : Nat) : Int) = 6 := rfl
      rw [hx]
      rw [hy] at c9
      clear hx hy ea eb
      go_wp2
      go_ret
      exact ⟨rfl, HZ.out.setCell (p := ⟨q + 1, 0, none⟩) (by simp; omega) _⟩
    · have tx : ((x : Int) == 0) = false := by simp; omega
      have hx : told (x : Int) = (x : Int) := if_neg (by omega)
      have ty : ((y : Int) == 0) = false := by simp; omega
      have hy : told (y : Int) = (y : Int) := if_neg (by omega)
      rw [hx]
      rw [hy] at c9
      clear hx hy ea eb
      go_wp2
      go_ret
      exact ⟨rfl, HZ.out⟩

end Go.Proofs.Ytbbnmfdhpepdnaa
