/-
  CodecCuts: the function that reads the items.
-/
import Derived.Test.YtbbnmfdhpepdnaaCodRt
import Derived.Test.YtbbnmfdhpepdnaaCodPl
namespace Go.Proofs.Ytbbnmfdhpepdnaa
open Go.RowKit

structure CutCtx (w0 : World) (bi : Nat) (Aw : Option Addr) (cw : Nat) (l : List It) : Prop where
  hw : w0.heap[bi]? = some (.cells #[.slice Aw l.length cw] 31 (0, 0))
  items : ItemsAt w0 Aw l
  few : l.length ≤ 30
  ok : ∀ t ∈ l, OkI t.k t.N t.bs
structure CutAt (w0 : World) (n : Nat) (w1 : World) : Prop where
  hn : w1.heap[w0.heap.size]? = some (.cells #[.int .i64 (n : Int)] 3 (0, 0))
  below : Below w0.heap.size w0 w1
theorem kinds_drop {l : List It} {j : Nat} {t : It} (h : l[j]? = some t) : (kindsOf l).drop j = t.k :: (kindsOf l).drop (j + 1) := by
  have hl : j < l.length := (List.getElem?_eq_some_iff.1 h).1
  have ht : l[j] = t := (List.getElem?_eq_some_iff.1 h).2
  unfold kindsOf
  rw [List.drop_eq_getElem_cons (by simpa using hl)]
  simp [ht]

set_option maxRecDepth 100000 in
set_option maxHeartbeats 4000000 in
theorem cutsF (w0 : World) (bi : Nat) (Aw : Option Addr) (cw : Nat) (l : List It) (hctx : CutCtx w0 bi Aw cw l)
    (xs : List Nat) (q : Nat) (hq : w0.heap.size = q) (g : Nat) (A : Option Addr) (c : Nat) (wi : World) (hrd : Rd wi g A c xs) (hat : CutAt w0 0 wi) (hg : q + 1 ≤ g) (hA : ∀ a, A = some a → q + 1 ≤ a.block) :
    Calls Try.prog 19 #[.pointer (some ⟨g, 0, none⟩), .pointer (some ⟨bi, 0, none⟩), .pointer (some ⟨q, 0, none⟩)] wi
      (FnPost (q + 1) g A wi (fun ys w1 => endT 9223372036854775807 (kindsOf l) xs = .ok ys ∧ CutAt w0 l.length w1) (fun code w1 => ∃ e : Nat, code = (e : Int) ∧ endT 9223372036854775807 (kindsOf l) xs = .error e ∧ CutAt w0 (itemsT 9223372036854775807 (kindsOf l) xs).length w1)) := by
  have hbi := (Array.getElem?_eq_some_iff.1 hctx.hw).1
  obtain ⟨len, hlen⟩ : ∃ n, l.length = n := ⟨_, rfl⟩
  have cb0 := (hat.below.cell (p := ⟨bi, 0, none⟩) hbi).trans (cell_of_row w0 bi 0 _ _ _ hctx.hw)
  have hfew := hctx.few
  rw [hlen] at cb0 hfew
  have HL := Lib.hid hlen
  have HX := Lib.hid (And.intro hctx (And.intro hq (And.intro hat (And.intro hrd hbi))))
  clear hlen hctx hat hrd hq hbi
  go_enter Try.func19, Try.ntmps19
  go_wp2_with (fail)
  clear cb0
  go_loopg [5, 8] len (fun gk s5 s8 wx => ∃ (j : Nat) (ys : List Nat) (A' : Option Addr) (c' : Nat), j + gk = len ∧ s8 = .int .i64 (j : Int) ∧ Rd wx g A' c' ys ∧ SameB A A' ∧ CutAt w0 j wx ∧
    endT 9223372036854775807 (kindsOf l) xs = endT 9223372036854775807 ((kindsOf l).drop j) ys ∧ (itemsT 9223372036854775807 (kindsOf l) xs).length = j + (itemsT 9223372036854775807 ((kindsOf l).drop j) ys).length ∧ wi.heap.size ≤ wx.heap.size ∧ ∀ k, q + 1 ≤ k → k < wi.heap.size → k ≠ g → (∀ a, A = some a → a.block ≠ k) → wx.heap[k]? = wi.heap[k]?)
  case atStart => exact ⟨0, xs, A, c, by omega, rfl, HX.out.2.2.2.1, SameB.refl _, HX.out.2.2.1, rfl, by simp, Nat.le_refl _, fun _ _ _ _ _ => rfl⟩
  case round =>
    obtain ⟨j, ys, A', c', hjg, rfl, hrd, hsb, hat, hend, hits, hsz, hkeep⟩ := hrel
    cases gk with
    | zero =>
      obtain rfl : j = len := by omega
      have hnil : (kindsOf l).drop j = [] := List.drop_eq_nil_of_le (by unfold kindsOf; rw [List.length_map, HL.out]; exact Nat.le_refl _)
      rw [hnil] at hend
      have HF := Lib.hid (And.intro hrd (And.intro hat (And.intro hend (And.intro hsz hkeep))))
      have hkz : ¬ ((j : Int) < (j : Int)) := by omega
      clear hrd hsb hat hits hjg hend hsz hkeep hnil
      go_wp2_with (fail)
      go_end0
      obtain ⟨hrd, hat, hend, hsz, hkeep⟩ := HF.out
      have hb := hat.below
      have hb0 := HX.out.2.2.1.below
      exact ⟨hb.os.trans hb0.os.symm, hb.tape.trans hb0.tape.symm, hb.output.trans hb0.output.symm, hsz, hkeep, .inl ⟨rfl, A', c', ys, hrd, hend, by rw [HL.out]; exact hat⟩⟩
    | succ gj =>
      obtain ⟨wo, rfl⟩ : ∃ wo : World, wo = wr := ⟨_, rfl⟩
      have hlt : (j : Int) < (len : Int) := by omega
      obtain ⟨t, ht⟩ : ∃ t, l[j]? = some t := ⟨l[j]'(by rw [HL.out]; omega), List.getElem?_eq_getElem _⟩
      obtain ⟨b, off, e1, hrg⟩ := (HX.out.1.items.keep hat.below).range ht
      have hok := HX.out.1.ok t (List.mem_of_getElem? ht)
      rw [kinds_drop ht] at hend hits
      obtain ⟨k, N, bs, At, ct⟩ := t
      simp only [itc] at hrg
      dsimp only at hok hend hits
      obtain ⟨m, hm⟩ : ∃ m, bs.length = m := ⟨_, rfl⟩
      rw [hm] at hrg
      subst e1
      have hq0 := HX.out.2.1
      have hqs : q + 1 ≤ wo.heap.size := by have := (Array.getElem?_eq_some_iff.1 hat.hn).1; omega
      have hset := setRow_new wo (item0 0) #[.int .i64 (k : Int), .int .i64 (N : Int), .slice At m ct] 33
      have hzn := heap_alloc_new wo (.cells (item0 0) 33)
      have hzi := run_zero_item
      obtain ⟨w1, hw1⟩ : ∃ w1, wo.alloc (.cells #[.int .i64 (k : Int), .int .i64 (N : Int), .slice At m ct] 33) = w1 := ⟨_, rfl⟩
      have hb01 : Below wo.heap.size wo w1 := by rw [← hw1]; exact (Below.refl _ _).alloc (Nat.le_refl _) _
      have hx1 : w1.heap[wo.heap.size]? = some (.cells #[.int .i64 (k : Int), .int .i64 (N : Int), .slice At m ct] 33 (0, 0)) := by rw [← hw1]; exact heap_alloc_new wo _
      have a0 := cell_of_row w1 wo.heap.size 0 _ _ _ hx1
      rw [hw1] at hset
      have HN := Lib.hid (next_any k g hok.1 A' c' ys 9223372036854775807 w1 (hrd.below hb01))
      have hk6 : k % 6 = k := Nat.mod_eq_of_lt hok.1
      have HR := Lib.hid (And.intro hrd (And.intro hsb (And.intro hat (And.intro hend (And.intro hits (And.intro hsz (And.intro hkeep (And.intro hjg (And.intro hb01 (And.intro hqs hk6))))))))))
      clear hrd hsb hat hend hits hsz hkeep hjg hb01 hok ht hx1 hw1 hm hqs hk6 hq0
      generalize hbx : wo.heap.size = bx at hset hzn a0 ⊢
      go_wp2_with (first
        | (refine wpList_load_mid rfl 33 (.tmp 10) rfl b (off + j * 3) rfl [.int .i64 (k : Int), .int .i64 (N : Int), .slice At m ct] _ hrg Try.underlying33 rfl info_item ?_)
        | (refine wpList_store_row rfl 33 (.tmp 5) (.tmp 11) rfl bx 33 (item0 0) #[.int .i64 (k : Int), .int .i64 (N : Int), .slice At m ct] rfl rfl hzn info_item rfl (item_one k N At m ct) ?_; rw [hset]))
      refine HN.out.mono ?_
      clear HN a0 hrg hset hzn hzi
      rintro e w2 ⟨hkp, hp⟩
      cases hnx : nextT k 9223372036854775807 ys with
      | error code =>
        rw [hnx] at hp
        subst hp
        have HP := Lib.hid hkp
        clear hkp
        go_wp2
        obtain ⟨hrd, hsb, hat, hend, hits, hsz, hkeep, hjg, hb01, hqs, hk6⟩ := HR.out
        have hkp := HP.out
        rw [endT_no (by rw [hk6]; exact hnx)] at hend
        rw [itemsT_no (by rw [hk6]; exact hnx)] at hits
        have hb := hat.below
        have hb0 := HX.out.2.2.1.below
        have hq := HX.out.2.1
        have hs01 := hb01.size
        have hbq := hb.size
        refine ⟨rfl, hkp.os.trans (hb01.os.trans (hb.os.trans hb0.os.symm)), hkp.tape.trans (hb01.tape.trans (hb.tape.trans hb0.tape.symm)), hkp.output.trans (hb01.output.trans (hb.output.trans hb0.output.symm)), Nat.le_trans hsz (Nat.le_trans hs01 hkp.size), fun i h1 h2 h3 h4 => (hkp.block i (by omega) h3).trans ((hb01.block i (by omega)).trans (hkeep i h1 h2 h3 h4)), .inr ⟨_, rfl, code, rfl, hend, ?_⟩⟩
        rw [hits]
        refine ⟨(hkp.block _ (by omega) (by omega)).trans ((hb01.block _ (by omega)).trans hat.hn), hb.trans ⟨hkp.os.trans hb01.os, hkp.tape.trans hb01.tape, hkp.output.trans hb01.output, Nat.le_trans hs01 hkp.size, fun i hi => (hkp.block i (by omega) (by omega)).trans (hb01.block i (by omega))⟩⟩
      | ok s =>
        obtain ⟨⟨N2, bs2⟩, zs⟩ := s
        rw [hnx] at hp
        obtain ⟨A1, cB, A2, c2, rfl, hb1, hrd2, hsb2, hA1, hah⟩ := hp
        have hn2 : w2.heap[q]? = some (.cells #[.int .i64 (j : Int)] 3 (0, 0)) := by
          obtain ⟨hrd, hsb, hat, hend, hits, hsz, hkeep, hjg, hb01, hqs, hk6⟩ := HR.out
          have hq := HX.out.2.1
          have hs01 := hb01.size
          exact (hkp.block _ (by omega) (by omega)).trans ((hb01.block _ (by omega)).trans (by rw [← hq]; exact hat.hn))
        have cn := cell_of_row w2 q 0 _ _ _ hn2
        have fn := frozen_of_row w2 q 0 _ _ hn2
        have hln := (Array.getElem?_eq_some_iff.1 hn2).1
        have HP := Lib.hid (And.intro hkp (And.intro hrd2 (And.intro hsb2 (And.intro hn2 hnx))))
        have hj30 : (j : Int) ≤ 30 := by omega
        clear hkp hb1 hrd2 hsb2 hA1 hah hn2 hnx
        go_wp2_with (fail)
        go_roundg gj
        case measure => omega
        case rel =>
          obtain ⟨hrd, hsb, hat, hend, hits, hsz, hkeep, hjg, hb01, hqs, hk6⟩ := HR.out
          obtain ⟨hkp, hrd2, hsb2, hn2, hnx⟩ := HP.out
          rw [endT_ok (by rw [hk6]; exact hnx)] at hend
          rw [itemsT_ok (by rw [hk6]; exact hnx), List.length_cons] at hits
          have hb := hat.below
          have hq := HX.out.2.1
          have hs01 := hb01.size
          have hbq := hb.size
          have hsame := hsb.trans hsb2
          have hne : ∀ i, i ≠ q → (w2.setCell ⟨q, 0, none⟩ (.int .i64 ((j : Int) + 1))).heap[i]? = w2.heap[i]? := fun i hi => heap_setCell_other _ _ _ _ hi
          refine ⟨j + 1, zs, A2, c2, by omega, by go_num, ?_, hsame, ?_, hend, by omega, by simp [World.setCell]; exact Nat.le_trans hsz (Nat.le_trans hs01 hkp.size), fun i h1 h2 h3 h4 => (hne i (by omega)).trans ((hkp.block i (by omega) h3).trans ((hb01.block i (by omega)).trans (hkeep i h1 h2 h3 h4)))⟩
          · exact hrd2.move (by simp [World.setCell]) (hne g (by omega)) (fun a ha _ => hne _ (by
              obtain ⟨p, hp, e⟩ := hsame a ha
              have := hA p hp
              omega))
          · refine ⟨?_, ?_⟩
            · rw [hq]; exact heap_setCell_same w2 q 0 _ _ _ hn2
            · exact (hb.trans ⟨hkp.os.trans hb01.os, hkp.tape.trans hb01.tape, hkp.output.trans hb01.output, Nat.le_trans hs01 hkp.size, fun i hi => (hkp.block i (by omega) (by omega)).trans (hb01.block i (by omega))⟩).setCell (by rw [hq]; exact Nat.le_refl _) _

end Go.Proofs.Ytbbnmfdhpepdnaa
