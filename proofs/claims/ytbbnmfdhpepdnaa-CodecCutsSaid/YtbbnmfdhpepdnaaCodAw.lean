/-
  The codec's example: awake.
-/
import Derived.Test.YtbbnmfdhpepdnaaCodRead
import Derived.Test.YtbbnmfdhpepdnaaCodW
namespace Go.Proofs.Ytbbnmfdhpepdnaa
open Go.RowKit

theorem Done_any (B g : Nat) (A : Option Addr) (c : Nat) (xs : List Nat) (w : World) (h : Wr w B g A c xs) (hm : xs.length ≤ 140737488355328) :
    Calls Try.prog 21 #[.pointer (some ⟨g, 0, none⟩)] w (CloneR A xs w) := by
  have c1 := cell_of_row w g 0 _ _ _ h.cell
  have HC := Lib.hid (Clone_any A c xs w h.row.row.u8 hm)
  clear h
  go_enter Try.func21, Try.ntmps21
  go_wp2_with (fail)
  refine HC.out.mono ?_
  rintro e w' ⟨A', c', rfl, hr⟩
  have HR := Lib.hid hr
  clear hr HC
  go_wp2
  go_ret
  exact ⟨A', c', rfl, HR.out⟩

theorem num300 : numT 300 0 0 [172, 2] = .ok (300, []) := rfl
theorem numB300 : numB 300 = [172, 2] := by rw [numB_big (by decide), numB_small (by decide)]

/-- the example's function -/
theorem awakeF_any (S g nb : Nat) (A : Option Addr) (c : Nat) (w0 wr : World) (h : Rd wr g A c [172, 2]) (hn : wr.heap[nb]? = some (.cells #[.int .i64 0] 3 (0, 0))) (hb : Below S w0 wr) (hS : S ≤ wr.heap.size) (hnS : nb < S) (hgS : S ≤ g) (hA : ∀ a, A = some a → S ≤ a.block) :
    Calls Try.prog 25 #[.pointer (some ⟨g, 0, none⟩), .pointer (some ⟨nb, 0, none⟩)] wr
      (FnPost S g A wr (fun ys w1 => ys = [] ∧ w1.heap[nb]? = some (.cells #[.int .i64 300] 3 (0, 0)) ∧ ∀ k, k < S → k ≠ nb → w1.heap[k]? = w0.heap[k]?) (fun _ _ => False)) := by
  have HNum := Lib.hid (Number_any g A c [172, 2] 300 wr h)
  have H := Lib.hid (And.intro hn hb)
  clear h hn hb
  go_enter Try.func25, Try.ntmps25
  go_wp2_with (fail)
  refine HNum.out.mono ?_
  clear HNum
  rintro e w1 ⟨hk, hp⟩
  rw [num300] at hp
  obtain ⟨rfl, A2, c2, hrd, hsb⟩ := hp
  have HSB := Lib.hid hsb
  clear hsb
  have hn1 : w1.heap[nb]? = some (.cells #[.int .i64 0] 3 (0, 0)) := (hk.block nb (by omega) (by omega)).trans H.out.1
  have cn := cell_of_row w1 nb 0 _ _ _ hn1
  have fn := frozen_of_row w1 nb 0 _ _ hn1
  have hn2 := heap_setCell_same w1 nb 0 _ _ (.int .i64 300) hn1
  have HX := Lib.hid (And.intro hk (And.intro hrd hn2))
  clear hk hrd hn1 hn2
  go_wp2
  go_end0
  have hk := HX.out.1
  refine ⟨hk.os, hk.tape, hk.output, by simpa [World.setCell] using hk.size, fun k h1 h2 h3 _ => ?_, .inl ⟨rfl, A2, c2, [], ?_, rfl, HX.out.2.2, fun k hkS hkn => ?_⟩⟩
  · exact (heap_setCell_other _ _ _ _ (by show k ≠ nb; omega)).trans (hk.block k h2 h3)
  · exact HX.out.2.1.move (by simp [World.setCell]) (heap_setCell_other _ _ _ _ (by show g ≠ nb; omega)) (fun a ha hl => heap_setCell_other _ _ _ _ (by
      show a.block ≠ nb
      obtain ⟨q, hq, e⟩ := HSB.out a ha
      have := hA q hq
      omega))
  · exact (heap_setCell_other _ _ _ _ hkn).trans ((hk.block k (by omega) (by omega)).trans (H.out.2.block k hkS))

theorem wr_new (w : World) : Wr (w.alloc (.cells #[.slice none 0 0] 44)) (w.heap.size + 1) w.heap.size none 0 [] :=
  ⟨heap_alloc_new w _, OwnB.nil _ _, by omega⟩

set_option maxRecDepth 100000 in
set_option maxHeartbeats 1000000 in
theorem awake_any (w : World) : Calls Try.prog 7 #[] w fun e w' => e = .returned (.bool true) ∧ Below w.heap.size w w' := by
  have hmf : ∀ (fn : Fn) (first cap : Array Value) (w : World), (Instr.makeFunc fn first cap).run Try.prog w = .ok (.func fn first cap) w := fun _ _ _ _ => rfl
  have HN := Lib.hid (WNumber_any (w.heap.size + 1) w.heap.size none 0 [] 300 _ (wr_new w) (by simp) (by decide) (by simp))
  go_enter Try.func7, Try.ntmps7
  go_wp2_with (fail)
  refine HN.out.mono ?_
  clear HN
  rintro e w1 ⟨A1, c1, rfl, hw1, hk1, -⟩
  rw [List.nil_append, numB300] at hw1
  have hb1 : Below w.heap.size w w1 := ((Below.refl _ w).alloc (Nat.le_refl _) _).trans (hk1.below (by simp) (fun k hk => ⟨by omega, fun a ha => by cases ha⟩))
  have HD := Lib.hid (Done_any _ _ A1 c1 [172, 2] w1 hw1 (by decide))
  clear hw1 hk1
  go_wp2_with (fail)
  refine HD.out.mono ?_
  clear HD
  rintro e w2 ⟨A2, c2, rfl, hown2, hb2, -, -⟩
  have hb2' := hb1.trans (hb2.mono hb1.size)
  clear hb1 hb2
  have HR := Lib.hid (Read_any (.func 25) 25 rfl #[.pointer (some ⟨w2.heap.size, 0, none⟩)] A2 c2 [172, 2] (w2.alloc (.cells #[.int .i64 0] 3)) ((hown2.below ((Below.refl _ _).alloc (Nat.le_refl _) _)).row.u8) (by decide)
    (fun ys w1 => ys = [] ∧ w1.heap[w2.heap.size]? = some (.cells #[.int .i64 300] 3 (0, 0)) ∧ ∀ k, k < w2.heap.size + 1 → k ≠ w2.heap.size → w1.heap[k]? = (w2.alloc (.cells #[.int .i64 0] 3)).heap[k]?) (fun _ _ => False)
    (fun args w => by kernel_rfl) (fun wr g A' c' hrd hbw hg hA => by
      have hs : (w2.alloc (.cells #[.int .i64 0] 3)).heap.size = w2.heap.size + 1 := by simp
      rw [hs] at hbw hg hA ⊢
      exact awakeF_any (w2.heap.size + 1) g w2.heap.size A' c' (w2.alloc (.cells #[.int .i64 0] 3)) wr hrd ((hbw.block _ (by omega)).trans (heap_alloc_new w2 _)) hbw (by have := hbw.size; rw [hs] at this; exact this) (by omega) hg hA))
  have HO := Lib.hid (And.intro hown2 hb2')
  clear hown2 hb2'
  go_wp2_with (fail)
  refine HR.out.mono ?_
  clear HR
  rintro e w3 ⟨w4, hos, htape, hout, hsz, hb34, hcase⟩
  rcases hcase with ⟨ys, rfl, rfl, hn, hk⟩ | ⟨_, _, hF⟩
  · rw [if_pos rfl]
    have hs : (w2.alloc (.cells #[.int .i64 0] 3)).heap.size = w2.heap.size + 1 := by simp
    rw [hs] at hb34 hsz
    have hold : ∀ k, k < w2.heap.size → w3.heap[k]? = w2.heap[k]? := fun k hkk =>
      (hb34.block k (by omega)).trans ((hk k (by omega) (by omega)).trans (Below.heap_alloc w2 _ k hkk))
    have hn3 : w3.heap[w2.heap.size]? = some (.cells #[.int .i64 300] 3 (0, 0)) := (hb34.block _ (by omega)).trans hn
    have hrow : RowU8 w3 A2 [172, 2] := (HO.out.1.row.move (fun a ha hl => hold _ hl)).u8
    have hbel : Below w.heap.size w w3 := HO.out.2.trans ⟨hb34.os.trans hos, hb34.tape.trans htape, hb34.output.trans hout, by have := hb34.size; omega, fun k hkk => hold k (by have := HO.out.2.size; omega)⟩
    have cn := cell_of_row w3 w2.heap.size 0 _ _ _ hn3
    have hcv := str_of w3 A2 [172, 2] hrow c2
    have hbs : bstr [172, 2] = { data := #[172, 2] } := by decide
    rw [hbs] at hcv
    have HB := Lib.hid hbel
    clear hos htape hout hsz hb34 hn hk hs hold hn3 hrow hbel hbs HO
    simp only [List.length_cons, List.length_nil, Nat.zero_add, Nat.reduceAdd] at hcv
    go_wp2
    go_ret
    exact ⟨rfl, HB.out⟩
  · exact hF.elim

end Go.Proofs.Ytbbnmfdhpepdnaa
