/-
  The walk of CodecCuts.
-/
import Derived.Test.YtbbnmfdhpepdnaaCodCf
namespace Go.Proofs.Ytbbnmfdhpepdnaa
open Go.RowKit

theorem allB_take {l : List It} {j : Nat} {t : It} (h : l[j]? = some t) : allB (l.take (j + 1)) = allB (l.take j) ++ putB t.k t.N t.bs := by
  unfold allB
  rw [List.take_add_one, h, List.flatMap_append]
  simp

set_option maxRecDepth 100000 in
set_option maxHeartbeats 4000000 in
theorem cuts_walk (A0 : Option Addr) (c0 : Nat) (l : List Jt) (cut : Nat) (w : World) (h : JtAt w A0 l ∧ l.length ≤ 9223372036854775807) (hcut : cut < 65536) :
    Calls Try.prog 5 #[.slice A0 l.length c0, .int .u16 (cut : Int)] w fun e w' => e = .returned (.bool true) ∧ Below w.heap.size w w' := by
  obtain ⟨i1, hj, hj0, hj1, hj2⟩ := info_parts info_byte
  have HJ := Lib.hid (And.intro hj (And.intro hj0 (And.intro hj1 hj2)))
  clear hj hj0 hj1 hj2
  have HX := Lib.hid h
  obtain ⟨n0, hn0⟩ : ∃ n, l.length = n := ⟨_, rfl⟩
  have HL := Lib.hid hn0
  rw [hn0]
  clear h hn0
  go_enter Try.func5, Try.ntmps5
  go_wp2_with (fail)
  refine (awake_any _).mono ?_
  rintro e w1 ⟨rfl, hb1⟩
  have HR := Lib.hid (right_any A0 c0 l w1 (HX.out.1.keep hb1) HX.out.2)
  rw [HL.out] at HR
  have HB1 := Lib.hid hb1
  clear hb1
  go_wp2_with (fail)
  refine HR.out.mono ?_
  clear HR
  rintro e w2 ⟨out, Ax, cx, rfl, hx30, hown, hall, hb2⟩
  obtain ⟨n, hn⟩ : ∃ n, out.length = n := ⟨_, rfl⟩
  rw [hn] at hown hx30 ⊢
  obtain ⟨bi, hbi⟩ : ∃ bi, w2.heap.size = bi := ⟨_, rfl⟩
  obtain ⟨w3, hw3⟩ : ∃ w3, w2.alloc (.cells #[.slice Ax n cx] 31) = w3 := ⟨_, rfl⟩
  have hb23 : Below bi w2 w3 := by rw [← hw3, ← hbi]; exact (Below.refl _ _).alloc (Nat.le_refl _) _
  have h3 : w3.heap[bi]? = some (.cells #[.slice Ax n cx] 31 (0, 0)) := by rw [← hw3, ← hbi]; exact heap_alloc_new w2 _
  have hs3 : w3.heap.size = bi + 1 := by rw [← hw3, ← hbi]; simp
  have ci := cell_of_row w3 bi 0 _ _ _ h3
  have hbw3 : Below w.heap.size w w3 := HB1.out.trans ((hb2.mono HB1.out.size).trans (hb23.mono (by have := HB1.out.size; have := hb2.size; omega)))
  have hit3 : ItemsAt w3 Ax out := ⟨RowV.of_own (ownsRow_keep hown fun g _ hl => hb23.block g (by omega)), fun t ht => ((hall t ht).1.1).below (by rw [hbi]; exact hb23)⟩
  have HW := Lib.hid (And.intro h3 (And.intro hit3 (And.intro (fun t ht => (hall t ht).2) (And.intro hbw3 (And.intro hs3 (And.intro hn (show w.heap.size ≤ bi by have := HB1.out.size; have := hb2.size; omega)))))))
  clear hown hall hb2 h3 hbw3 hit3 hs3 hn hb23
  go_wp2_with (fail)
  clear hw3 ci
  go_loopg [6, 8, 18] n (fun gk s6 s8 s18 wx => ∃ (j : Nat) (A : Option Addr) (c : Nat), j + gk = n ∧ s18 = .int .i64 (j : Int) ∧ s6 = .slice A (allB (out.take j)).length c ∧ OwnB wx (bi + 1) A c (allB (out.take j)) ∧ Below (bi + 1) w3 wx)
  case atStart => exact ⟨0, none, 0, by omega, rfl, rfl, OwnB.nil _ _, Below.refl _ _⟩
  case round =>
    obtain ⟨j, A, c, hjg, rfl, rfl, hown, hbel⟩ := hrel
    cases gk with
    | zero =>
      obtain rfl : j = n := by omega
      have hkz : ¬ ((j : Int) < (j : Int)) := by omega
      have htk : out.take j = out := List.take_of_length_le (by rw [HW.out.2.2.2.2.2.1]; exact Nat.le_refl _)
      rw [htk] at hown ⊢
      have hlen : (allB out).length ≤ 309 * 30 := Nat.le_trans (allB_len _ HW.out.2.2.1) (by rw [HW.out.2.2.2.2.2.1]; omega)
      obtain ⟨xs, hxs⟩ : ∃ xs, allB out = xs := ⟨_, rfl⟩
      rw [hxs] at hown hlen ⊢
      have HB := Lib.hid (HW.out.2.2.2.1.trans (hbel.mono (by have := HW.out.2.2.2.2.2.2; omega)))
      obtain ⟨m, hm⟩ : ∃ m, xs.length = m := ⟨_, rfl⟩
      rw [hm] at hlen ⊢
      by_cases h0 : m = 0
      · subst h0
        clear hown hbel hjg htk
        go_wp2_with (fail)
        go_ret
        exact ⟨rfl, HB.out⟩
      · have t0 : decide ((m : Int) = 0) = false := by simp; omega
        have t1 : (m : Int) ≠ 0 := by omega
        have e1 : (cut : Int) % (m : Int) = ((cut % m : Nat) : Int) := by omega
        have hkm : cut % m < m := Nat.mod_lt _ (by omega)
        have hcap := hown.cap
        rw [hm] at hcap
        obtain ⟨hc1, hc2⟩ := hcap
        have hcut := all_cut out (cut % m) HW.out.2.2.1 (by rw [hxs, hm]; exact hkm)
        rw [hxs] at hcut
        have hrow := (hown.row.u8).take (cut % m)
        have htl : (xs.take (cut % m)).length = cut % m := by rw [List.length_take]; omega
        have HQ := Lib.hid (And.intro hrow (And.intro htl (And.intro hcut hbel)))
        clear hown hbel hjg htk hrow htl hcut
        generalize cut % m = k at *
        go_wp2_with (fail)
        obtain ⟨hrow, htl, hcut, hbel⟩ := HQ.out
        have hctx : CutCtx wr bi Ax cx out :=
          ⟨by rw [HW.out.2.2.2.2.2.1, hbel.block bi (by omega)]; exact HW.out.1, HW.out.2.1.keep (by rw [HW.out.2.2.2.2.1]; exact hbel), by rw [HW.out.2.2.2.2.2.1]; exact hx30, HW.out.2.2.1⟩
        have hbq := hbel.size
        have hs3 := HW.out.2.2.2.2.1
        have h9n := heap_alloc_new wr (.cells #[.int .i64 0] 3)
        have hb9 : Below wr.heap.size wr (wr.alloc (.cells #[.int .i64 0] 3)) := (Below.refl _ _).alloc (Nat.le_refl _) _
        have hs9 : (wr.alloc (.cells #[.int .i64 0] 3)).heap.size = wr.heap.size + 1 := by simp
        obtain ⟨W9, hW9⟩ : ∃ W9, wr.alloc (.cells #[.int .i64 0] 3) = W9 := ⟨_, rfl⟩
        rw [hW9] at h9n hb9 hs9
        obtain ⟨q, hq⟩ : ∃ q, wr.heap.size = q := ⟨_, rfl⟩
        have HRd := Lib.hid (Read_any (.func 19) 19 rfl #[.pointer (some ⟨bi, 0, none⟩), .pointer (some ⟨q, 0, none⟩)] A c (xs.take k) W9 (hrow.below hb9) (by omega)
          (fun ys w1 => endT 9223372036854775807 (kindsOf out) (xs.take k) = .ok ys ∧ CutAt wr out.length w1) (fun code w1 => ∃ e : Nat, code = (e : Int) ∧ endT 9223372036854775807 (kindsOf out) (xs.take k) = .error e ∧ CutAt wr (itemsT 9223372036854775807 (kindsOf out) (xs.take k)).length w1)
          (fun args w => by kernel_rfl) (fun wz g A' c' hrd hbw hg hA => by
            rw [hs9, hq] at hbw hg hA ⊢
            exact cutsF wr bi Ax cx out hctx (xs.take k) q hq g A' c' wz hrd ⟨(hbw.block _ (by omega)).trans h9n, hb9.trans (hbw.mono (by omega))⟩ hg hA))
        rw [htl] at HRd
        rw [hW9, hq]
        refine HRd.out.mono ?_
        clear HRd hW9
        rintro e w10 ⟨w11, hos, htape, hout, hsz, hb, hcase⟩
        obtain ⟨i, hij, rfl, hat⟩ : ∃ i : Nat, i < j ∧ e = .returned (.int .i64 6) ∧ CutAt wr i w11 := by
          rcases hcase with ⟨zs, rfl, he, hat⟩ | ⟨code, rfl, e', rfl, he, hat⟩
          · rw [hcut.1] at he; cases he
          · rw [hcut.1] at he
            cases he
            exact ⟨_, by have := hcut.2; have := HW.out.2.2.2.2.2.1; omega, rfl, hat⟩
        rw [hs9, hq] at hb hsz
        have hb010 : Below wr.heap.size wr w10 := hat.below.trans (hb.mono (by omega))
        have hn10 : w10.heap[q]? = some (.cells #[.int .i64 (i : Int)] 3 (0, 0)) := (hb.block _ (by omega)).trans (by rw [← hq]; exact hat.hn)
        have hx10 := (hb010.block bi (Array.getElem?_eq_some_iff.1 hctx.hw).1).trans hctx.hw
        rw [HW.out.2.2.2.2.2.1] at hx10
        have cn10 := cell_of_row w10 q 0 _ _ _ hn10
        have cx10 := cell_of_row w10 bi 0 _ _ _ hx10
        have HB2 := Lib.hid (HB.out.trans (hb010.mono HB.out.size))
        have hlt : decide ((i : Int) < (j : Int)) = true := by simp; omega
        clear hcase hos htape hout hsz hb hat hb010 hn10 hx10 hctx hrow htl hcut hbel h9n hb9 hs9 hq hbq hs3
        go_wp2_with (fail)
        go_ret
        exact ⟨rfl, HB2.out⟩
    | succ gj =>
      obtain ⟨wo, rfl⟩ : ∃ wo : World, wo = wr := ⟨_, rfl⟩
      have hlt : (j : Int) < (n : Int) := by omega
      obtain ⟨t, ht⟩ : ∃ t, out[j]? = some t := ⟨out[j]'(by rw [HW.out.2.2.2.2.2.1]; omega), List.getElem?_eq_getElem _⟩
      have hitw := HW.out.2.1.keep (w' := wo) (by rw [HW.out.2.2.2.2.1]; exact hbel)
      obtain ⟨b, off, e1, hrg⟩ := hitw.range ht
      have hrb := hitw.bytes t (List.mem_of_getElem? ht)
      have hok := HW.out.2.2.1 t (List.mem_of_getElem? ht)
      have hsum := allB_take ht
      have hlen : (allB (out.take j)).length ≤ 309 * 30 := Nat.le_trans (allB_len _ fun t h => HW.out.2.2.1 t (List.mem_of_mem_take h)) (by rw [List.length_take]; omega)
      obtain ⟨k, N, bs, At, ct⟩ := t
      simp only [itc] at hrg
      dsimp only at hok hsum hrb
      obtain ⟨xs, hxs⟩ : ∃ xs, allB (out.take j) = xs := ⟨_, rfl⟩
      rw [hxs] at hown hsum hlen ⊢
      obtain ⟨m, hm⟩ : ∃ m, bs.length = m := ⟨_, rfl⟩
      obtain ⟨s, hs⟩ : ∃ s, xs.length = s := ⟨_, rfl⟩
      subst e1
      have hset := setRow_new wo (item0 0) #[.int .i64 (k : Int), .int .i64 (N : Int), .slice At m ct] 33
      have hzn := heap_alloc_new wo (.cells (item0 0) 33)
      have hzi := run_zero_item
      obtain ⟨w4, hw4⟩ : ∃ w4, wo.alloc (.cells #[.int .i64 (k : Int), .int .i64 (N : Int), .slice At m ct] 33) = w4 := ⟨_, rfl⟩
      have hb4 : Below wo.heap.size wo w4 := by rw [← hw4]; exact (Below.refl _ _).alloc (Nat.le_refl _) _
      have hx4 : w4.heap[wo.heap.size]? = some (.cells #[.int .i64 (k : Int), .int .i64 (N : Int), .slice At m ct] 33 (0, 0)) := by rw [← hw4]; exact heap_alloc_new wo _
      rw [hw4] at hset
      have HN := Lib.hid (rPut_any k N At ct bs w4 hok (hrb.below hb4))
      rw [hm] at HN hrg
      rw [hs] at hlen ⊢
      have hpl := putB_len hok
      obtain ⟨ys, hys⟩ : ∃ ys, putB k N bs = ys := ⟨_, rfl⟩
      rw [hys] at HN hsum hpl
      obtain ⟨m2, hm2⟩ : ∃ m2, ys.length = m2 := ⟨_, rfl⟩
      rw [hm2] at hpl
      have HQ := Lib.hid (And.intro hown (And.intro hbel (And.intro hb4 (And.intro hsum (And.intro hs (And.intro hm2 hjg))))))
      clear hown hbel hb4 hsum hs hjg hw4 hxs hys hm hok hrb ht hitw hm2
      generalize hbx : wo.heap.size = bx at hset hzn hx4 ⊢
      go_wp2_with (first
        | (refine wpList_load_mid rfl 33 (.tmp 20) rfl b (off + j * 3) rfl [.int .i64 (k : Int), .int .i64 (N : Int), .slice At m ct] _ hrg Try.underlying33 rfl info_item ?_)
        | (refine wpList_store_row rfl 33 (.tmp 8) (.tmp 21) rfl bx 33 (item0 0) #[.int .i64 (k : Int), .int .i64 (N : Int), .slice At m ct] rfl rfl hzn info_item rfl (item_one k N At m ct) ?_; rw [hset])
        | (refine wpList_load_row rfl 33 (.tmp 8) rfl bx rfl 33 #[.int .i64 (k : Int), .int .i64 (N : Int), .slice At m ct] (0, 0) _ hx4 Try.underlying33 rfl info_item ?_))
      refine HN.out.mono ?_
      clear HN hset hzn hzi hrg hx4
      rintro e w5 ⟨A5, c5, rfl, hown5, hb5⟩
      have hxo : w5.ownsRow (bi + 1) 5 1 (.slice A s c) s (u8v xs) := by
        rw [← HQ.out.2.2.2.2.1]
        exact ((HQ.out.1.below HQ.out.2.2.1).below hb5).own
      have HP := Lib.hid (And.intro hxo (And.intro hown5 (And.intro ((HQ.out.2.1.trans ((HQ.out.2.2.1.mono (by have := HQ.out.2.1.size; have := HW.out.2.2.2.2.1; omega)).trans (hb5.mono (by have := HQ.out.2.1.size; have := HQ.out.2.2.1.size; have := HW.out.2.2.2.2.1; omega))))) (show bi + 1 ≤ w5.heap.size by have := HQ.out.2.1.size; have := HQ.out.2.2.1.size; have := hb5.size; have := HW.out.2.2.2.2.1; omega))))
      rw [HQ.out.2.2.2.2.2.1]
      clear hown5 hb5 hxo
      go_wp2_with (first
        | (refine wpList_append_rown _ rfl (.tmp 22) (.tmp 24) 25 rfl (bi + 1) 5 i1 (.int .u8 0) 1 1 Try.underlying25 HJ.out.1 HJ.out.2.1 HJ.out.2.2.1 HJ.out.2.2.2 (by rfl) (by omega) (.slice A s c) s (u8v xs) rfl HP.out.1 A5 m2 c5 (u8v ys) rfl (HP.out.2.1.row.u8.rowv) (by rw [u8v_length, HQ.out.2.2.2.2.2.1, Nat.mul_one]) (u8v_one _) (by unfold maxLen; omega) (by omega) HP.out.2.2.2 ?_; intro A6 c6 w6 hown6 hgr6 hnew6; have HZ := Lib.hid (And.intro hown6 (And.intro hgr6 hnew6)); clear hown6 hgr6 hnew6))
      go_roundg gj
      case measure => omega
      case rel =>
        obtain ⟨hown, hbel, hb4, hsum, hs, hm2, hjg⟩ := HQ.out
        have hO := OwnB.from_append hown.lt HP.out.2.1.lt hs hm2 HZ.out.1
        have hl : (xs ++ ys).length = s + m2 := by rw [List.length_append, hs, hm2]
        refine ⟨j + 1, A6, c6, by omega, by go_num, ?_, ?_, ?_⟩
        · rw [hsum, hl]
        · rw [hsum]; exact hO
        · exact HP.out.2.2.1.grown HZ.out.2.1 HP.out.2.2.2 (fun i hi => (HP.out.1.lt i hi).1)

end Go.Proofs.Ytbbnmfdhpepdnaa
