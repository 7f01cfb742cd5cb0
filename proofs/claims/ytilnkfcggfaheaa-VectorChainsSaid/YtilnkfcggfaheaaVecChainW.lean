/-
  The walk of VectorChains.
-/
import Derived.Test.YtilnkfcggfaheaaVecChain
import Derived.Test.YtilnkfcggfaheaaVecLastsW
namespace Go.Proofs.Ytilnkfcggfaheaa
open Go.RowKit Go.Shelf

set_option maxRecDepth 100000 in
set_option maxHeartbeats 1000000 in
theorem chains_long (A : Option Addr) (c len : Nat) (hl : 60 < len) (hm : len ≤ 9223372036854775807) (w : World) :
    Calls Try.prog 6 #[.slice A len c] w fun e W' => e = .returned (.bool true) ∧ Below w.heap.size w W' := by
  have t1 : decide ((len : Int) > 60) = true := by simp; omega
  go_enter Try.func6, Try.ntmps6
  go_wp2_with (fail)
  refine (awake_any _).mono ?_
  rintro e w1 ⟨rfl, h1⟩
  go_wp2_with (fail)
  refine (awake_any _).mono ?_
  rintro e w2 ⟨rfl, h2⟩
  go_wp2
  go_ret
  exact ⟨rfl, h1.trans (h2.mono h1.size)⟩

theorem run_build_arr (w : World) : (Instr.build 22 #[]).run Try.prog w = .ok (.agg vz) w := by kernel_rfl

theorem setRow_other (w : World) (g k : Nat) (cs : Array Value) (h : k ≠ g) : (w.setRow g cs).heap[k]? = w.heap[k]? := by
  simp only [World.setRow, Array.getElem?_modify]
  rw [if_neg (fun e => h e.symm)]
theorem ownsRow_same {w w' : World} {base size : Nat} {e : TypeId} {v : Value} {n : Nat} {xs : List Value} (h : w.ownsRow base e size v n xs) (hk : ∀ g, base ≤ g → w'.heap[g]? = w.heap[g]?) : w'.ownsRow base e size v n xs := by
  refine ⟨h.1, ?_⟩
  rcases h.2 with hn | ⟨g, cap, cur, rfl, hb, hgg, rest⟩
  · exact .inl hn
  · exact .inr ⟨g, cap, cur, rfl, hb, (hk g hb).trans hgg, rest⟩

theorem vGood_S (V : List Int) (hV : V.length = 16) (hb : ∀ i : Nat, -9223372036854775808 ≤ V[i]?.getD 0 ∧ V[i]?.getD 0 ≤ 9223372036854775807) (R : Bool) (hR : good V = R) (w : World) :
    Calls Try.prog 12 #[.agg (ivs V)] w fun e W' => e = .returned (.bool R) ∧ Below w.heap.size w W' := by
  rw [← hR]; exact vGood_any V hV hb w

set_option maxRecDepth 100000 in
set_option maxHeartbeats 4000000 in
theorem chains_short (A : Option Addr) (c : Nat) (xs : List Nat) (w : World) (hr : RowU8 w A xs) (hm : xs.length ≤ 60) :
    Calls Try.prog 6 #[.slice A xs.length c] w fun e W' => e = .returned (.bool true) ∧ Below w.heap.size w W' := by
  obtain ⟨len, hlen⟩ : ∃ n, n = xs.length := ⟨_, rfl⟩
  rw [← hlen] at hm ⊢
  have HL := Lib.hid hlen
  have HR := Lib.hid hr
  clear hlen hr
  have hinfo : (Try.prog.info? 25).map (fun i => (i.zero, i.size, i.bytes)) = some (some (.agg vz), 16, 128) := by kernel_rfl
  obtain ⟨i0, hi, hz0, hz1, hz2⟩ := info_parts hinfo
  have HI := Lib.hid (And.intro hi (And.intro hz0 (And.intro hz1 hz2)))
  clear hinfo hi hz0 hz1 hz2
  have hz := run_zero_arr
  have hzv := run_zero_vec
  have hbz := run_build_arr
  have t1 : decide ((len : Int) > 60) = false := by simp; omega
  go_enter Try.func6, Try.ntmps6
  go_wp2_with (fail)
  refine (awake_any _).mono ?_
  rintro e w1 ⟨rfl, h1⟩
  have hn1 := heap_alloc_new (w1.alloc (.cells vz 25)) (Obj.cells vz 22)
  have hsz1 : (w1.alloc (.cells vz 25)).heap.size = w1.heap.size + 1 := by simp
  rw [hsz1] at hn1
  have hvi := arr_info (V := zeros) rfl
  have hvo := ivs_one zeros
  have hset : ((w1.alloc (.cells vz 25)).alloc (.cells vz 22)).setRow (w1.heap.size + 1) vz = (w1.alloc (.cells vz 25)).alloc (.cells vz 22) := by
    have := setRow_new (w1.alloc (.cells vz 25)) vz vz 22
    rwa [hsz1] at this
  go_wp2_with (first
    | (refine wpList_store_row rfl 22 (.tmp 5) (.tmp 19) rfl (w1.heap.size + 1) 22 vz vz rfl rfl hn1 hvi rfl hvo ?_; rw [hset]))
  obtain ⟨W, hW⟩ : ∃ W, (w1.alloc (.cells vz 25)).alloc (.cells vz 22) = W := ⟨_, rfl⟩
  have hx3 : W.heap[w1.heap.size]? = some (.cells (ivs (ch xs 0)) 25 (0, 0)) := by rw [← hW]; exact heap_alloc2_old w1 _ _
  have hx5 : W.heap[w1.heap.size + 1]? = some (.cells (ivs (ch xs 0)) 22 (0, 0)) := by rw [← hW]; exact heap_alloc2_new w1 _ _
  have hbW : Below w.heap.size w W := by rw [← hW]; exact (h1.alloc h1.size _).alloc (by have := h1.size; simp; omega) _
  have hsW : W.heap.size = w1.heap.size + 2 := by rw [← hW]; simp
  rw [hW]
  have hs1 := h1.size
  clear hW hn1 hsz1 hset h1
  generalize hB : w1.heap.size = B at *
  clear hB
  go_loopg [4, 22] len (fun g s4 s22 wx => ∃ (k : Nat) (A4 : Option Addr) (c4 : Nat), k + g = len ∧ s22 = .int .i64 k ∧ s4 = .slice A4 k c4 ∧ B + 2 ≤ wx.heap.size ∧ wx.ownsRow (B + 2) 25 16 (.slice A4 k c4) k ((chs xs k).flatMap ivl) ∧
    wx.heap[B]? = some (.cells (ivs (ch xs k)) 25 (0, 0)) ∧ wx.heap[B + 1]? = some (.cells (ivs (ch xs k)) 22 (0, 0)) ∧ Below w.heap.size w wx)
  case atStart => exact ⟨0, none, 0, by omega, rfl, rfl, by omega, World.ownsRow_nil _ _ _ _, hx3, hx5, hbW⟩
  case round =>
    clear hx3 hx5 hbW hsW
    obtain ⟨k, A4, c4, hkg, rfl, rfl, hsz, hown, hx3, hx5, hbel⟩ := hrel
    cases gk with
    | succ g =>
      have hlt : (k : Int) < (len : Int) := by omega
      have hkl : k < len := by omega
      obtain ⟨b, off, e1, hcell⟩ := HR.out.form (by rw [← HL.out]; omega)
      subst e1
      have c0 := hcell k (by rw [← HL.out]; exact hkl)
      have hxlt : xs[k]?.getD 0 < 256 := by
        rw [List.getElem?_eq_getElem (by rw [← HL.out]; exact hkl)]
        exact HR.out.lt _ (List.getElem_mem _)
      have HX := Lib.hid (show ch xs (k + 1) = bump (ch xs k) (xs[k]?.getD 0 % 16) from rfl)
      have HLT := Lib.hid (ch_bd xs k)
      have hVok := ch_ok xs k (by omega)
      have hUok := ch_ok xs (k + 1) (by omega)
      have HCM := Lib.hid (And.intro (ch_lt xs (show k < k + 1 by omega)) (ch_gt xs (show k < k + 1 by omega)))
      have HCS := Lib.hid (chs_succ xs k)
      obtain ⟨V, hVe⟩ : ∃ V, ch xs k = V := ⟨_, rfl⟩
      obtain ⟨U, hUe⟩ : ∃ U, ch xs (k + 1) = U := ⟨_, rfl⟩
      rw [hVe] at HX HLT hVok HCM hx3 hx5
      rw [hUe] at HX hUok HCM HCS
      have HVU := Lib.hid (And.intro hVe hUe)
      generalize xs[k]?.getD 0 = x at c0 hxlt HX
      have c1 : wr.cell? ⟨b, off + k, none⟩ = some (.int .u8 (x : Nat)) := by
        have hblt : b < w.heap.size := World.block_lt_of_cell? w ⟨b, off + k, none⟩ c0
        have h2 := hbel.block b hblt
        unfold World.cell? at c0 ⊢
        simpa [h2] using c0
      have hvi' := vec_info hVok.len
      have HO := Lib.hid (And.intro hown (And.intro hx5 hbel))
      clear hVe hUe hown hx5 hbel c0 hcell
      go_wp2_with (first
        | (refine wpList_load_row rfl 25 (.tmp 3) rfl B rfl 25 (ivs V) (0, 0) _ hx3 Try.underlying25 rfl hvi' ?_))
      have e16 : (x : Int) % 16 = ((x % 16 : Nat) : Int) := by omega
      have hr16 : x % 16 < 16 := Nat.mod_lt _ (by omega)
      rw [e16]
      generalize x % 16 = r at *
      have hVr := HLT.out r hr16
      refine (Bump_R V hVok r hr16 (by omega) U HX.out.symm _).mono ?_
      rintro e w2 ⟨rfl, h2⟩
      have hui := vec_info hUok.len
      have huzs : vz.size = (ivs U).size := by rw [ivs_size, hUok.len]; rfl
      have hx3 := (((h2.alloc h2.size (.cells (ivs U) 25))).block _ (Array.getElem?_eq_some_iff.1 hx3).1).trans hx3
      have hx5 := (((h2.alloc h2.size (.cells (ivs U) 25))).block _ (Array.getElem?_eq_some_iff.1 HO.out.2.1).1).trans HO.out.2.1
      have hbel := HO.out.2.2.trans ((h2.alloc h2.size (.cells (ivs U) 25)).mono HO.out.2.2.size)
      have hown := ownsRow_under HO.out.1 (h2.alloc h2.size (.cells (ivs U) 25))
      have hn1 := heap_alloc_new w2 (Obj.cells vz 25)
      have hx8 := heap_alloc_new w2 (Obj.cells (ivs U) 25)
      have hszB : B + 2 ≤ w2.heap.size := Nat.le_trans hsz h2.size
      clear h2 HO c1 hsz
      generalize hb8 : w2.heap.size = b8 at *
      generalize hW2 : w2.alloc (.cells (ivs U) 25) = W2 at *
      have HO := Lib.hid (And.intro hown (And.intro hx5 hbel))
      clear hown hx5 hbel
      go_wp2_with (first
        | (refine wpList_store_row rfl 25 (.tmp 8) (.tmp 32) rfl b8 25 vz (ivs U) rfl rfl hn1 hui huzs (ivs_one U) ?_; rw [← hb8, setRow_new, hb8, hW2])
        | (refine wpList_load_rowg (by rfl) 25 (.tmp 3) rfl B rfl 25 (ivs V) (0, 0) _ hx3 Try.underlying25 rfl hvi' ?_) | (refine wpList_load_rowg (by rfl) 25 (.tmp 8) rfl b8 rfl 25 (ivs U) (0, 0) _ hx8 Try.underlying25 rfl hui ?_))
      refine (Compare_R V U hVok hUok (-1) HCM.out.1 _).mono ?_
      rintro e w3 ⟨rfl, h3⟩
      have hx3 := (h3.block _ (Array.getElem?_eq_some_iff.1 hx3).1).trans hx3
      have hx8 := (h3.block _ (Array.getElem?_eq_some_iff.1 hx8).1).trans hx8
      clear hb8 hW2 hn1
      go_wp2_with (first
        | (refine wpList_load_rowg (by rfl) 25 (.tmp 3) rfl B rfl 25 (ivs V) (0, 0) _ hx3 Try.underlying25 rfl hvi' ?_) | (refine wpList_load_rowg (by rfl) 25 (.tmp 8) rfl b8 rfl 25 (ivs U) (0, 0) _ hx8 Try.underlying25 rfl hui ?_))
      refine (Compare_R U V hUok hVok 1 HCM.out.2 _).mono ?_
      rintro e w4 ⟨rfl, h4⟩
      have hx3 := (h4.block _ (Array.getElem?_eq_some_iff.1 hx3).1).trans hx3
      have hx8 := (h4.block _ (Array.getElem?_eq_some_iff.1 hx8).1).trans hx8
      have h34 := h3.trans (h4.mono h3.size)
      have hx5 := (h34.block _ (Array.getElem?_eq_some_iff.1 HO.out.2.1).1).trans HO.out.2.1
      have hbel := HO.out.2.2.trans (h34.mono HO.out.2.2.size)
      have hown := ownsRow_under HO.out.1 h34
      clear HO h3 h4 h34
      have c5 : w4.cell? ⟨B + 1, r, none⟩ = some (.int .i64 (V[r]?.getD 0)) := by
        rw [cell_of_row _ _ _ _ _ _ hx5, ivs_get _ _ (by rw [hVok.len]; exact hr16)]
      have f5 := frozen_of_row w4 (B + 1) r _ _ hx5
      have hbp : V.set r (V[r]?.getD 0 + 1) = U := HX.out.symm
      generalize V[r]?.getD 0 = v at *
      have hx5s := heap_setCell_same w4 (B + 1) r _ _ (.int .i64 (v + 1)) hx5
      rw [ivs_set, hbp] at hx5s
      have hx3s := (heap_setCell_other w4 ⟨B + 1, r, none⟩ B (.int .i64 (v + 1)) (by simp)).trans hx3
      have hx8s := (heap_setCell_other w4 ⟨B + 1, r, none⟩ b8 (.int .i64 (v + 1)) (by simp; omega)).trans hx8
      have hbel5 := hbel.setCell (p := ⟨B + 1, r, none⟩) (by simp; omega) (.int .i64 (v + 1))
      have hown5 := ownsRow_same hown (fun g hg => heap_setCell_other w4 ⟨B + 1, r, none⟩ g (.int .i64 (v + 1)) (by simp; omega))
      have hx3n := setRow_heap (w4.setCell ⟨B + 1, r, none⟩ (.int .i64 (v + 1))) B _ (ivs U) _ _ hx3s
      have hx5n := (setRow_other (w4.setCell ⟨B + 1, r, none⟩ (.int .i64 (v + 1))) B (B + 1) (ivs U) (by omega)).trans hx5s
      have hbel6 := hbel5.trans ((below_setRow (g := B) (W := w4.setCell ⟨B + 1, r, none⟩ (.int .i64 (v + 1))) hs1 (ivs U)))
      have hown6 := ownsRow_same hown5 (fun g hg => setRow_other (w4.setCell ⟨B + 1, r, none⟩ (.int .i64 (v + 1))) B g (ivs U) (by omega))
      have hsz6 : B + 2 ≤ ((w4.setCell ⟨B + 1, r, none⟩ (.int .i64 (v + 1))).setRow B (ivs U)).heap.size := by
        have := (Array.getElem?_eq_some_iff.1 hx5).1
        have := (Array.getElem?_eq_some_iff.1 hx8).1
        simp [World.setCell]; omega
      have HW6 := Lib.hid (And.intro hown6 (And.intro hbel6 (And.intro hx3n (And.intro hx5n hsz6))))
      have hvus : (ivs V).size = (ivs U).size := by rw [ivs_size, ivs_size, hVok.len, hUok.len]
      obtain ⟨W6, hW6⟩ : ∃ W6, (w4.setCell ⟨B + 1, r, none⟩ (.int .i64 (v + 1))).setRow B (ivs U) = W6 := ⟨_, rfl⟩
      rw [hW6] at HW6
      have hx3n := HW6.out.2.2.1
      have hrow := row_new W6 (ivl U) 25
      have hbs := run_bs1 U hUok.len W6
      have hcat : [U].flatMap ivl = ivl U := by simp
      rw [hcat] at hbs
      have HBS := Lib.hid hbs
      have HQ := Lib.hid (And.intro (HW6.out.1.alloc (.cells (ivl U).toArray 25)) (And.intro (HW6.out.2.1.alloc HW6.out.2.1.size (.cells (ivl U).toArray 25)) hrow))
      clear hx5s hbel5 hown5 hx5n hbel6 hown6 hsz6 hbp hbel hown hx5 hx3 hbs hcat hrow hx8
      go_wp2_with (first
        | (refine wpList_store_row rfl 25 (.tmp 3) (.tmp 54) rfl B 25 (ivs V) (ivs U) rfl rfl hx3s hui hvus (ivs_one U) ?_; rw [hW6])
        | (refine wpList_load_row rfl 25 (.tmp 8) rfl b8 rfl 25 (ivs U) (0, 0) _ hx8s Try.underlying25 rfl hui ?_)
        | (refine wpList_load_row rfl 25 (.tmp 3) rfl B rfl 25 (ivs U) (0, 0) _ hx3n Try.underlying25 rfl hui ?_)
        | (refine wpList_bsl rfl 37 1 #[(0, .tmp 56)] rfl [(0, .agg (ivs U))] (by rfl) (.slice (some ⟨W6.heap.size, 0, none⟩) 1 1) (W6.alloc (.cells (ivl U).toArray 25)) HBS.out ?_)
        | (refine wpList_append_rowv _ rfl (.tmp 55) (.tmp 57) 37 rfl (B + 2) 25 i0 (.agg vz) 16 128 Try.underlying37 HI.out.1 HI.out.2.1 HI.out.2.2.1 HI.out.2.2.2 (by rfl) (by omega) (.slice A4 k c4) k ((chs xs k).flatMap ivl) rfl HQ.out.1 (some ⟨W6.heap.size, 0, none⟩) 1 1 (ivl U) rfl HQ.out.2.2 (by rw [ivl_length, hUok.len]) (ivl_one U) (by unfold maxLen; omega) (by omega) (Nat.le_trans HW6.out.2.2.2.2 (by simp)) ?_; intro A' c' w' hown' hgr))
      have HZ := Lib.hid (And.intro hown' hgr)
      clear hown' hgr
      go_roundg g
      case measure => omega
      case rel =>
        have hkeep : ∀ j : Nat, j < B + 2 → w'.heap[j]? = W6.heap[j]? := fun j hj => by
          rw [HZ.out.2.block j (by have := HW6.out.2.2.2.2; simp; omega) (by
            intro e; have := (HQ.out.1.lt j e.symm).1; omega)]
          exact heap_alloc_old W6 _ j (by have := HW6.out.2.2.2.2; omega)
        refine ⟨k + 1, A', c', by omega, by go_num, rfl, ?_, ?_, ?_, ?_, ?_⟩
        · have h1 := HZ.out.2.size
          have h2 := HW6.out.2.2.2.2
          simp at h1; omega
        · rw [HCS.out, List.flatMap_append]
          have := HZ.out.1
          simpa using this
        · rw [hkeep B (by omega), HVU.out.2]; exact HW6.out.2.2.1
        · rw [hkeep (B + 1) (by omega), HVU.out.2]; exact HW6.out.2.2.2.1
        · exact HQ.out.2.1.grown HZ.out.2 HQ.out.2.1.size (fun j hj => by have := (HQ.out.1.lt j hj).1; omega)
    | zero =>
      have hkz : ¬ ((k : Int) < (len : Int)) := by omega
      obtain rfl : k = len := by omega
      have hok := chs_ok xs k (by omega)
      have hlen := chs_length xs k
      have HLa := Last_any A4 c4 (chs xs k) wr (RowV.of_own hown) hok (by rw [hlen]; omega)
      rw [hlen] at HLa
      have HC := Lib.hid (And.intro hok hlen)
      have HO := Lib.hid (And.intro hown (And.intro hx3 (And.intro hx5 hbel)))
      clear hown hx3 hx5 hbel hok hlen
      go_wp2_with (fail)
      refine HLa.mono ?_
      clear HLa
      rintro e w2 ⟨A5, c5, rfl, hown5, h2⟩
      have HL5 := Lib.hid (And.intro (RowV.of_own hown5) h2)
      have hx3 := (h2.block _ (Array.getElem?_eq_some_iff.1 HO.out.2.1).1).trans HO.out.2.1
      have hx5 := (h2.block _ (Array.getElem?_eq_some_iff.1 HO.out.2.2.1).1).trans HO.out.2.2.1
      have hown := ownsRow_under HO.out.1 h2
      have hbel := HO.out.2.2.2.trans (h2.mono HO.out.2.2.2.size)
      have hmgl := mgl_chs xs k (by omega)
      have hVok := ch_ok xs k (by omega)
      have hgood := ch_good xs k (by omega)
      have HM := Lib.hid (And.intro hmgl hgood)
      have HSl := Lib.hid (show SlV (chs xs k) (.slice A4 k c4) w2 from ⟨A4, c4, by rw [HC.out.2], RowV.of_own hown⟩)
      have HB := Lib.hid hbel
      obtain ⟨V, hVe⟩ : ∃ V, ch xs k = V := ⟨_, rfl⟩
      rw [hVe] at hx3 hx5 hVok HM
      have hvi := vec_info hVok.len
      have hai := arr_info hVok.len
      clear HO hown5 h2 hown hbel hmgl hgood hVe
      by_cases hk0 : k = 0
      · subst hk0
        have h0 : lastsTo (chs xs 0) 0 = [] := rfl
        rw [h0] at HL5 ⊢
        go_wp2_with (fail)
        refine wp_region_rel rfl (fun W' => Below w2.heap.size w2 W') (fun W1 W2 => Below W1.heap.size W1 W2)
          (fun i => ([fun v _ => v = (.agg (ivs V) : Value), fun v _ => v = (.agg (ivs V) : Value), fun v _ => v = (.bool true : Value), fun v _ => v = (.bool true : Value), fun v _ => v = (.slice A4 0 c4 : Value), fun v _ => v = (.agg (ivs V) : Value), fun v _ => v = (.agg (ivs V) : Value), fun v _ => v = (.bool true : Value), fun v _ => v = (.bool true : Value), fun v _ => v = (.bool true : Value), fun v _ => v = (.agg (ivs V) : Value), fun v _ => v = (.bool true : Value), fun v _ => v = (.bool true : Value), fun v _ => v = (.bool true : Value), fun v _ => v = (.slice A 0 c : Value), fun v _ => v = (.int .i64 0 : Value), fun v _ => v = (.bool true : Value), fun v _ => v = (.bool true : Value), fun v _ => v = (.slice A5 0 c5 : Value), fun v _ => v = (.int .i64 0 : Value), fun v _ => v = (.bool true : Value), fun v _ => v = (.bool true : Value), fun v _ => v = (.bool true : Value), fun v _ => v = (undef : Value), fun v _ => v = (undef : Value), fun v _ => v = (undef : Value), fun v _ => v = (undef : Value), fun v _ => v = (undef : Value), fun v _ => v = (undef : Value), fun v _ => v = (undef : Value), fun v _ => v = (undef : Value), fun v _ => v = (undef : Value), fun v _ => v = (undef : Value), fun v _ => v = (undef : Value), fun v _ => v = (undef : Value), fun v _ => v = (.bool true : Value), fun v _ => v = (.bool true : Value), fun v _ => v = (.bool true : Value)][i]?).getD (fun _ _ => True))
          (fun x => { tmps := #[.slice A 0 c, undef, x 37, .pointer (some ⟨B, 0, none⟩), .slice A4 0 c4, .pointer (some ⟨B + 1, 0, none⟩), undef, u7, u8, u9, .slice A5 0 c5, .bool true, .bool false, .bool false, .slice A 0 c, .int .i64 0, .bool false, .bool false, undef, .agg vz, .slice A 0 c, .int .i64 0, .int .i64 0, .bool false, u24, u25, u26, u27, u28, u29, u30, u31, u32, u33, u34, u35, u36, u37, u38, u39, u40, u41, u42, u43, u44, u45, u46, u47, u48, u49, u50, u51, u52, u53, u54, u55, u56, u57, u58, u59, .slice A4 0 c4, .slice A5 0 c5, x 0, x 1, x 2, x 3, x 4, x 5, x 6, x 7, x 8, x 9, x 10, x 11, x 12, x 13, x 14, x 15, x 16, x 17, x 18, x 19, x 20, x 21, x 22, x 23, x 24, x 25, x 26, x 27, x 28, x 29, x 30, x 31, x 32, x 33, x 34, x 35, x 36], defers := [] }) (fun x => by simp only [fillL, Act.put, List.setIfInBounds_toArray, List.set_cons_zero, List.set_cons_succ, Nat.reduceAdd]) (by kernel_rfl) (by kernel_rfl) ?xst ((Below.refl _ _).drew) ?xop ?xfin
        case xst =>
          intro i v w1 w2 h hb
          rcases i with _ | _ | _ | _ | _ | _ | _ | _ | _ | _ | _ | _ | _ | _ | _ | _ | _ | _ | _ | _ | _ | _ | _ | _ | _ | _ | _ | _ | _ | _ | _ | _ | _ | _ | _ | _ | _ | _ | i
          · exact h
          · exact h
          · exact h
          · exact h
          · exact h
          · exact h
          · exact h
          · exact h
          · exact h
          · exact h
          · exact h
          · exact h
          · exact h
          · exact h
          · exact h
          · exact h
          · exact h
          · exact h
          · exact h
          · exact h
          · exact h
          · exact h
          · exact h
          · exact h
          · exact h
          · exact h
          · exact h
          · exact h
          · exact h
          · exact h
          · exact h
          · exact h
          · exact h
          · exact h
          · exact h
          · exact h
          · exact h
          · exact h
          · exact h
        case xop =>
          refine .cons (.plain rfl fun x w1 hC hd K hK => ?_) ?_
          · exact wp_load_row 25 (.tmp 3) rfl B rfl 25 (ivs V) (0, 0) _ ((hC.block _ (Array.getElem?_eq_some_iff.1 hx3).1).trans hx3) Try.underlying25 rfl (hvi) (hK _ _ (Below.refl _ _) hC rfl)
          refine .cons (.plain rfl fun x w1 hC hd K hK => ?_) ?_
          · exact wp_load_row 22 (.tmp 5) rfl (B + 1) rfl 22 (ivs V) (0, 0) _ ((hC.block _ (Array.getElem?_eq_some_iff.1 hx5).1).trans hx5) Try.underlying22 rfl (hai) (hK _ _ (Below.refl _ _) hC rfl)
          refine .cons (.plain rfl fun x w1 hC hd K hK => ?_) ?_
          · have d0 : x 0 = (.agg (ivs V) : Value) := hd.get 0 rfl
            have d1 : x 1 = (.agg (ivs V) : Value) := hd.get 1 rfl
            dsimp only at hK ⊢
            rw [d0, d1] at hK ⊢
            exact wp_value (v := (.bool true : Value)) ((exec_eqv (.tmp 62) (.tmp 63) _ rfl V V rfl rfl hVok.len hVok.len w1).trans (by simp)) (hK _ _ (Below.refl _ _) hC rfl)
          refine .cons (.plain rfl fun x w1 hC hd K hK => ?_) ?_
          · have d2 : x 2 = (.bool true : Value) := hd.get 2 rfl
            dsimp only at hK ⊢
            rw [d2] at hK ⊢
            exact wp_value (v := (.bool true : Value)) (by rfl) (hK _ _ (Below.refl _ _) hC rfl)
          refine .cons (.yes 3 true 65 rfl rfl (fun x w1 hC hd => by have d : x 3 = .bool true := hd.get 3 rfl; show some (x 3) = _; rw [d]) fun x w1 hC hd K hK => ?_) ?_
          · exact wp_value (v := (.slice A4 0 c4 : Value)) (by rfl) (hK _ _ (Below.refl _ _) hC rfl)
          refine .cons (.yes 3 true 65 rfl rfl (fun x w1 hC hd => by have d : x 3 = .bool true := hd.get 3 rfl; show some (x 3) = _; rw [d]) fun x w1 hC hd K hK => ?_) ?_
          · have d4 : x 4 = (.slice A4 0 c4 : Value) := hd.get 4 rfl
            dsimp only at hK ⊢
            rw [d4] at hK ⊢
            exact wp_called (f := 13) (args := #[.slice A4 0 c4]) (exec_call 13 _ rfl _ rfl rfl #[.slice A4 0 c4] rfl _ Try.func13 (by kernel_rfl) (by kernel_rfl) w1) (Merge_sl (chs xs 0) (.slice A4 0 c4) w1 (HSl.out.keep hC) HC.out.1 (by rw [HC.out.2]; omega) V HM.out.1) (fun e w' ⟨he, hb⟩ => ⟨_, he, hK _ _ hb (hC.trans (hb.mono hC.size)) rfl⟩)
          refine .cons (.yes 3 true 65 rfl rfl (fun x w1 hC hd => by have d : x 3 = .bool true := hd.get 3 rfl; show some (x 3) = _; rw [d]) fun x w1 hC hd K hK => ?_) ?_
          · exact wp_load_row 25 (.tmp 3) rfl B rfl 25 (ivs V) (0, 0) _ ((hC.block _ (Array.getElem?_eq_some_iff.1 hx3).1).trans hx3) Try.underlying25 rfl (hvi) (hK _ _ (Below.refl _ _) hC rfl)
          refine .cons (.yes 3 true 65 rfl rfl (fun x w1 hC hd => by have d : x 3 = .bool true := hd.get 3 rfl; show some (x 3) = _; rw [d]) fun x w1 hC hd K hK => ?_) ?_
          · have d5 : x 5 = (.agg (ivs V) : Value) := hd.get 5 rfl
            have d6 : x 6 = (.agg (ivs V) : Value) := hd.get 6 rfl
            dsimp only at hK ⊢
            rw [d5, d6] at hK ⊢
            exact wp_value (v := (.bool true : Value)) ((exec_eqv (.tmp 67) (.tmp 68) _ rfl V V rfl rfl hVok.len hVok.len w1).trans (by simp)) (hK _ _ (Below.refl _ _) hC rfl)
          refine .cons (.plain rfl fun x w1 hC hd K hK => ?_) ?_
          · have d3 : x 3 = (.bool true : Value) := hd.get 3 rfl
            have d7 : x 7 = (.bool true : Value) := hd.get 7 rfl
            dsimp only at hK ⊢
            rw [d3, d7] at hK ⊢
            exact wp_value (v := (.bool true : Value)) (by rfl) (hK _ _ (Below.refl _ _) hC rfl)
          refine .cons (.plain rfl fun x w1 hC hd K hK => ?_) ?_
          · have d8 : x 8 = (.bool true : Value) := hd.get 8 rfl
            dsimp only at hK ⊢
            rw [d8] at hK ⊢
            exact wp_value (v := (.bool true : Value)) (by rfl) (hK _ _ (Below.refl _ _) hC rfl)
          refine .cons (.yes 9 true 71 rfl rfl (fun x w1 hC hd => by have d : x 9 = .bool true := hd.get 9 rfl; show some (x 9) = _; rw [d]) fun x w1 hC hd K hK => ?_) ?_
          · exact wp_load_row 25 (.tmp 3) rfl B rfl 25 (ivs V) (0, 0) _ ((hC.block _ (Array.getElem?_eq_some_iff.1 hx3).1).trans hx3) Try.underlying25 rfl (hvi) (hK _ _ (Below.refl _ _) hC rfl)
          refine .cons (.yes 9 true 71 rfl rfl (fun x w1 hC hd => by have d : x 9 = .bool true := hd.get 9 rfl; show some (x 9) = _; rw [d]) fun x w1 hC hd K hK => ?_) ?_
          · have d10 : x 10 = (.agg (ivs V) : Value) := hd.get 10 rfl
            dsimp only at hK ⊢
            rw [d10] at hK ⊢
            exact wp_called (f := 12) (args := #[.agg (ivs V)]) (exec_call 12 _ rfl _ rfl rfl #[.agg (ivs V)] rfl _ Try.func12 (by kernel_rfl) (by kernel_rfl) w1) (vGood_S V hVok.len (fun i => by have := hVok.lo i; have := hVok.hi i; omega) true HM.out.2 w1) (fun e w' ⟨he, hb⟩ => ⟨_, he, hK _ _ hb (hC.trans (hb.mono hC.size)) rfl⟩)
          refine .cons (.plain rfl fun x w1 hC hd K hK => ?_) ?_
          · have d9 : x 9 = (.bool true : Value) := hd.get 9 rfl
            have d11 : x 11 = (.bool true : Value) := hd.get 11 rfl
            dsimp only at hK ⊢
            rw [d9, d11] at hK ⊢
            exact wp_value (v := (.bool true : Value)) (by rfl) (hK _ _ (Below.refl _ _) hC rfl)
          refine .cons (.plain rfl fun x w1 hC hd K hK => ?_) ?_
          · have d12 : x 12 = (.bool true : Value) := hd.get 12 rfl
            dsimp only at hK ⊢
            rw [d12] at hK ⊢
            exact wp_value (v := (.bool true : Value)) (by rfl) (hK _ _ (Below.refl _ _) hC rfl)
          refine .cons (.yes 13 true 75 rfl rfl (fun x w1 hC hd => by have d : x 13 = .bool true := hd.get 13 rfl; show some (x 13) = _; rw [d]) fun x w1 hC hd K hK => ?_) ?_
          · exact wp_value (v := (.slice A 0 c : Value)) (by rfl) (hK _ _ (Below.refl _ _) hC rfl)
          refine .cons (.yes 13 true 75 rfl rfl (fun x w1 hC hd => by have d : x 13 = .bool true := hd.get 13 rfl; show some (x 13) = _; rw [d]) fun x w1 hC hd K hK => ?_) ?_
          · have d14 : x 14 = (.slice A 0 c : Value) := hd.get 14 rfl
            dsimp only at hK ⊢
            rw [d14] at hK ⊢
            exact wp_value (v := (.int .i64 0 : Value)) (by go_simp) (hK _ _ (Below.refl _ _) hC rfl)
          refine .cons (.yes 13 true 75 rfl rfl (fun x w1 hC hd => by have d : x 13 = .bool true := hd.get 13 rfl; show some (x 13) = _; rw [d]) fun x w1 hC hd K hK => ?_) ?_
          · have d15 : x 15 = (.int .i64 0 : Value) := hd.get 15 rfl
            dsimp only at hK ⊢
            rw [d15] at hK ⊢
            exact wp_value (v := (.bool true : Value)) (by go_simp) (hK _ _ (Below.refl _ _) hC rfl)
          refine .cons (.yes 13 true 75 rfl rfl (fun x w1 hC hd => by have d : x 13 = .bool true := hd.get 13 rfl; show some (x 13) = _; rw [d]) fun x w1 hC hd K hK => ?_) ?_
          · have d16 : x 16 = (.bool true : Value) := hd.get 16 rfl
            dsimp only at hK ⊢
            rw [d16] at hK ⊢
            exact wp_value (v := (.bool true : Value)) (by rfl) (hK _ _ (Below.refl _ _) hC rfl)
          refine .cons (.yes 17 true 79 rfl rfl (fun x w1 hC hd => by have d : x 17 = .bool true := hd.get 17 rfl; show some (x 17) = _; rw [d]) fun x w1 hC hd K hK => ?_) ?_
          · exact wp_value (v := (.slice A5 0 c5 : Value)) (by rfl) (hK _ _ (Below.refl _ _) hC rfl)
          refine .cons (.yes 17 true 79 rfl rfl (fun x w1 hC hd => by have d : x 17 = .bool true := hd.get 17 rfl; show some (x 17) = _; rw [d]) fun x w1 hC hd K hK => ?_) ?_
          · have d18 : x 18 = (.slice A5 0 c5 : Value) := hd.get 18 rfl
            dsimp only at hK ⊢
            rw [d18] at hK ⊢
            exact wp_value (v := (.int .i64 0 : Value)) (by go_simp) (hK _ _ (Below.refl _ _) hC rfl)
          refine .cons (.yes 17 true 79 rfl rfl (fun x w1 hC hd => by have d : x 17 = .bool true := hd.get 17 rfl; show some (x 17) = _; rw [d]) fun x w1 hC hd K hK => ?_) ?_
          · have d19 : x 19 = (.int .i64 0 : Value) := hd.get 19 rfl
            dsimp only at hK ⊢
            rw [d19] at hK ⊢
            exact wp_value (v := (.bool true : Value)) (by go_simp) (hK _ _ (Below.refl _ _) hC rfl)
          refine .cons (.yes 13 true 75 rfl rfl (fun x w1 hC hd => by have d : x 13 = .bool true := hd.get 13 rfl; show some (x 13) = _; rw [d]) fun x w1 hC hd K hK => ?_) ?_
          · have d17 : x 17 = (.bool true : Value) := hd.get 17 rfl
            have d20 : x 20 = (.bool true : Value) := hd.get 20 rfl
            dsimp only at hK ⊢
            rw [d17, d20] at hK ⊢
            exact wp_value (v := (.bool true : Value)) (by rfl) (hK _ _ (Below.refl _ _) hC rfl)
          refine .cons (.yes 13 true 75 rfl rfl (fun x w1 hC hd => by have d : x 13 = .bool true := hd.get 13 rfl; show some (x 13) = _; rw [d]) fun x w1 hC hd K hK => ?_) ?_
          · have d21 : x 21 = (.bool true : Value) := hd.get 21 rfl
            dsimp only at hK ⊢
            rw [d21] at hK ⊢
            exact wp_value (v := (.bool true : Value)) (by rfl) (hK _ _ (Below.refl _ _) hC rfl)
          refine .cons (.no (fun _ => Below.refl _ _) 22 false 84 rfl rfl (fun x w1 hC hd => .inl (by have d : x 22 = .bool true := hd.get 22 rfl; show some (x 22) = _; rw [d]; rfl)) (fun _ _ => rfl)) ?_
          refine .cons (.no (fun _ => Below.refl _ _) 22 false 84 rfl rfl (fun x w1 hC hd => .inl (by have d : x 22 = .bool true := hd.get 22 rfl; show some (x 22) = _; rw [d]; rfl)) (fun _ _ => rfl)) ?_
          refine .cons (.no (fun _ => Below.refl _ _) 22 false 84 rfl rfl (fun x w1 hC hd => .inl (by have d : x 22 = .bool true := hd.get 22 rfl; show some (x 22) = _; rw [d]; rfl)) (fun _ _ => rfl)) ?_
          refine .cons (.no (fun _ => Below.refl _ _) 22 false 84 rfl rfl (fun x w1 hC hd => .inl (by have d : x 22 = .bool true := hd.get 22 rfl; show some (x 22) = _; rw [d]; rfl)) (fun _ _ => rfl)) ?_
          refine .cons (.no (fun _ => Below.refl _ _) 26 true 88 rfl rfl (fun x w1 hC hd => .inr (by have d : x 26 = undef := hd.get 26 rfl; show some (x 26) = _; rw [d])) (fun _ _ => rfl)) ?_
          refine .cons (.no (fun _ => Below.refl _ _) 26 true 88 rfl rfl (fun x w1 hC hd => .inr (by have d : x 26 = undef := hd.get 26 rfl; show some (x 26) = _; rw [d])) (fun _ _ => rfl)) ?_
          refine .cons (.no (fun _ => Below.refl _ _) 26 true 88 rfl rfl (fun x w1 hC hd => .inr (by have d : x 26 = undef := hd.get 26 rfl; show some (x 26) = _; rw [d])) (fun _ _ => rfl)) ?_
          refine .cons (.no (fun _ => Below.refl _ _) 26 true 88 rfl rfl (fun x w1 hC hd => .inr (by have d : x 26 = undef := hd.get 26 rfl; show some (x 26) = _; rw [d])) (fun _ _ => rfl)) ?_
          refine .cons (.no (fun _ => Below.refl _ _) 26 true 88 rfl rfl (fun x w1 hC hd => .inr (by have d : x 26 = undef := hd.get 26 rfl; show some (x 26) = _; rw [d])) (fun _ _ => rfl)) ?_
          refine .cons (.no (fun _ => Below.refl _ _) 26 true 88 rfl rfl (fun x w1 hC hd => .inr (by have d : x 26 = undef := hd.get 26 rfl; show some (x 26) = _; rw [d])) (fun _ _ => rfl)) ?_
          refine .cons (.no (fun _ => Below.refl _ _) 26 true 88 rfl rfl (fun x w1 hC hd => .inr (by have d : x 26 = undef := hd.get 26 rfl; show some (x 26) = _; rw [d])) (fun _ _ => rfl)) ?_
          refine .cons (.no (fun _ => Below.refl _ _) 22 false 84 rfl rfl (fun x w1 hC hd => .inl (by have d : x 22 = .bool true := hd.get 22 rfl; show some (x 22) = _; rw [d]; rfl)) (fun _ _ => rfl)) ?_
          refine .cons (.yes 13 true 75 rfl rfl (fun x w1 hC hd => by have d : x 13 = .bool true := hd.get 13 rfl; show some (x 13) = _; rw [d]) fun x w1 hC hd K hK => ?_) ?_
          · have d22 : x 22 = (.bool true : Value) := hd.get 22 rfl
            dsimp only at hK ⊢
            rw [d22] at hK ⊢
            exact wp_value (v := (.bool true : Value)) (by rfl) (hK _ _ (Below.refl _ _) hC rfl)
          refine .cons (.plain rfl fun x w1 hC hd K hK => ?_) ?_
          · have d13 : x 13 = (.bool true : Value) := hd.get 13 rfl
            have d35 : x 35 = (.bool true : Value) := hd.get 35 rfl
            dsimp only at hK ⊢
            rw [d13, d35] at hK ⊢
            exact wp_value (v := (.bool true : Value)) (by rfl) (hK _ _ (Below.refl _ _) hC rfl)
          refine .cons (.plain rfl fun x w1 hC hd K hK => ?_) ?_
          · have d36 : x 36 = (.bool true : Value) := hd.get 36 rfl
            dsimp only at hK ⊢
            rw [d36] at hK ⊢
            exact wp_value (v := (.bool true : Value)) (by rfl) (hK _ _ (Below.refl _ _) hC rfl)
          exact .nil
        case xfin =>
          intro z w9 hC hΦ
          have d : z 37 = .bool true := hΦ 37 (by decide)
          dsimp only
          rw [d]
          clear hΦ d
          go_wp2
          go_ret
          exact ⟨rfl, HB.out.trans (hC.mono HB.out.size)⟩
      · obtain ⟨m, rfl⟩ : ∃ m, k = m + 1 := ⟨k - 1, by omega⟩
        have hlast := lasts_chs xs m
        rw [hlast] at HL5 ⊢
        have c10 : ∃ b off, A5 = some ⟨b, off, none⟩ ∧ ∀ w1, Below w2.heap.size w2 w1 → w1.cell? ⟨b, off, none⟩ = some (.int .i64 (m : Nat)) := by
          obtain ⟨b, off, e1, hc⟩ := HL5.out.1.form (by simp [ints])
          refine ⟨b, off, e1, fun w1 hw1 => ?_⟩
          obtain ⟨b', off', e2, hc'⟩ := (HL5.out.1.keep hw1).form (by simp [ints])
          have := hc' 0 (by simp [ints])
          rw [e1] at e2
          cases e2
          simpa [ints] using this
        obtain ⟨b, off, rfl, hcell⟩ := c10
        clear hlast
        go_wp2_with (fail)
        refine wp_region_rel rfl (fun W' => Below w2.heap.size w2 W') (fun W1 W2 => Below W1.heap.size W1 W2)
          (fun i => ([fun v _ => v = (.agg (ivs V) : Value), fun v _ => v = (.agg (ivs V) : Value), fun v _ => v = (.bool true : Value), fun v _ => v = (.bool true : Value), fun v _ => v = (.slice A4 (m + 1) c4 : Value), fun v _ => v = (.agg (ivs V) : Value), fun v _ => v = (.agg (ivs V) : Value), fun v _ => v = (.bool true : Value), fun v _ => v = (.bool true : Value), fun v _ => v = (.bool true : Value), fun v _ => v = (.agg (ivs V) : Value), fun v _ => v = (.bool true : Value), fun v _ => v = (.bool true : Value), fun v _ => v = (.bool true : Value), fun v _ => v = (.slice A (m + 1) c : Value), fun v _ => v = (.int .i64 ((m : Int) + 1) : Value), fun v _ => v = (.bool false : Value), fun v _ => v = (.bool false : Value), fun v _ => v = (undef : Value), fun v _ => v = (undef : Value), fun v _ => v = (undef : Value), fun v _ => v = (.bool false : Value), fun v _ => v = (.bool false : Value), fun v _ => v = (.slice (some ⟨b, off, none⟩) 1 c5 : Value), fun v _ => v = (.int .i64 1 : Value), fun v _ => v = (.bool true : Value), fun v _ => v = (.bool true : Value), fun v _ => v = (.slice (some ⟨b, off, none⟩) 1 c5 : Value), fun v _ => v = (.pointer (some ⟨b, off, none⟩) : Value), fun v _ => v = (.int .i64 (m : Nat) : Value), fun v _ => v = (.slice A (m + 1) c : Value), fun v _ => v = (.int .i64 ((m : Int) + 1) : Value), fun v _ => v = (.int .i64 (m : Nat) : Value), fun v _ => v = (.bool true : Value), fun v _ => v = (.bool true : Value), fun v _ => v = (.bool true : Value), fun v _ => v = (.bool true : Value), fun v _ => v = (.bool true : Value)][i]?).getD (fun _ _ => True))
          (fun x => { tmps := #[.slice A (m + 1) c, undef, x 37, .pointer (some ⟨B, 0, none⟩), .slice A4 (m + 1) c4, .pointer (some ⟨B + 1, 0, none⟩), undef, u7, u8, u9, .slice (some ⟨b, off, none⟩) 1 c5, .bool true, .bool false, .bool false, .slice A (m + 1) c, .int .i64 ((m : Int) + 1), .bool false, .bool false, undef, .agg vz, .slice A (m + 1) c, .int .i64 ((m : Int) + 1), .int .i64 ((m : Int) + 1), .bool false, u24, u25, u26, u27, u28, u29, u30, u31, u32, u33, u34, u35, u36, u37, u38, u39, u40, u41, u42, u43, u44, u45, u46, u47, u48, u49, u50, u51, u52, u53, u54, u55, u56, u57, u58, u59, .slice A4 (m + 1) c4, .slice (some ⟨b, off, none⟩) 1 c5, x 0, x 1, x 2, x 3, x 4, x 5, x 6, x 7, x 8, x 9, x 10, x 11, x 12, x 13, x 14, x 15, x 16, x 17, x 18, x 19, x 20, x 21, x 22, x 23, x 24, x 25, x 26, x 27, x 28, x 29, x 30, x 31, x 32, x 33, x 34, x 35, x 36], defers := [] }) (fun x => by simp only [fillL, Act.put, List.setIfInBounds_toArray, List.set_cons_zero, List.set_cons_succ, Nat.reduceAdd]) (by kernel_rfl) (by kernel_rfl) ?xst ((Below.refl _ _).drew) ?xop ?xfin
        case xst =>
          intro i v w1 w2 h hb
          rcases i with _ | _ | _ | _ | _ | _ | _ | _ | _ | _ | _ | _ | _ | _ | _ | _ | _ | _ | _ | _ | _ | _ | _ | _ | _ | _ | _ | _ | _ | _ | _ | _ | _ | _ | _ | _ | _ | _ | i
          · exact h
          · exact h
          · exact h
          · exact h
          · exact h
          · exact h
          · exact h
          · exact h
          · exact h
          · exact h
          · exact h
          · exact h
          · exact h
          · exact h
          · exact h
          · exact h
          · exact h
          · exact h
          · exact h
          · exact h
          · exact h
          · exact h
          · exact h
          · exact h
          · exact h
          · exact h
          · exact h
          · exact h
          · exact h
          · exact h
          · exact h
          · exact h
          · exact h
          · exact h
          · exact h
          · exact h
          · exact h
          · exact h
          · exact h
        case xop =>
          refine .cons (.plain rfl fun x w1 hC hd K hK => ?_) ?_
          · exact wp_load_row 25 (.tmp 3) rfl B rfl 25 (ivs V) (0, 0) _ ((hC.block _ (Array.getElem?_eq_some_iff.1 hx3).1).trans hx3) Try.underlying25 rfl (hvi) (hK _ _ (Below.refl _ _) hC rfl)
          refine .cons (.plain rfl fun x w1 hC hd K hK => ?_) ?_
          · exact wp_load_row 22 (.tmp 5) rfl (B + 1) rfl 22 (ivs V) (0, 0) _ ((hC.block _ (Array.getElem?_eq_some_iff.1 hx5).1).trans hx5) Try.underlying22 rfl (hai) (hK _ _ (Below.refl _ _) hC rfl)
          refine .cons (.plain rfl fun x w1 hC hd K hK => ?_) ?_
          · have d0 : x 0 = (.agg (ivs V) : Value) := hd.get 0 rfl
            have d1 : x 1 = (.agg (ivs V) : Value) := hd.get 1 rfl
            dsimp only at hK ⊢
            rw [d0, d1] at hK ⊢
            exact wp_value (v := (.bool true : Value)) ((exec_eqv (.tmp 62) (.tmp 63) _ rfl V V rfl rfl hVok.len hVok.len w1).trans (by simp)) (hK _ _ (Below.refl _ _) hC rfl)
          refine .cons (.plain rfl fun x w1 hC hd K hK => ?_) ?_
          · have d2 : x 2 = (.bool true : Value) := hd.get 2 rfl
            dsimp only at hK ⊢
            rw [d2] at hK ⊢
            exact wp_value (v := (.bool true : Value)) (by rfl) (hK _ _ (Below.refl _ _) hC rfl)
          refine .cons (.yes 3 true 65 rfl rfl (fun x w1 hC hd => by have d : x 3 = .bool true := hd.get 3 rfl; show some (x 3) = _; rw [d]) fun x w1 hC hd K hK => ?_) ?_
          · exact wp_value (v := (.slice A4 (m + 1) c4 : Value)) (by rfl) (hK _ _ (Below.refl _ _) hC rfl)
          refine .cons (.yes 3 true 65 rfl rfl (fun x w1 hC hd => by have d : x 3 = .bool true := hd.get 3 rfl; show some (x 3) = _; rw [d]) fun x w1 hC hd K hK => ?_) ?_
          · have d4 : x 4 = (.slice A4 (m + 1) c4 : Value) := hd.get 4 rfl
            dsimp only at hK ⊢
            rw [d4] at hK ⊢
            exact wp_called (f := 13) (args := #[.slice A4 (m + 1) c4]) (exec_call 13 _ rfl _ rfl rfl #[.slice A4 (m + 1) c4] rfl _ Try.func13 (by kernel_rfl) (by kernel_rfl) w1) (Merge_sl (chs xs (m + 1)) (.slice A4 (m + 1) c4) w1 (HSl.out.keep hC) HC.out.1 (by rw [HC.out.2]; omega) V HM.out.1) (fun e w' ⟨he, hb⟩ => ⟨_, he, hK _ _ hb (hC.trans (hb.mono hC.size)) rfl⟩)
          refine .cons (.yes 3 true 65 rfl rfl (fun x w1 hC hd => by have d : x 3 = .bool true := hd.get 3 rfl; show some (x 3) = _; rw [d]) fun x w1 hC hd K hK => ?_) ?_
          · exact wp_load_row 25 (.tmp 3) rfl B rfl 25 (ivs V) (0, 0) _ ((hC.block _ (Array.getElem?_eq_some_iff.1 hx3).1).trans hx3) Try.underlying25 rfl (hvi) (hK _ _ (Below.refl _ _) hC rfl)
          refine .cons (.yes 3 true 65 rfl rfl (fun x w1 hC hd => by have d : x 3 = .bool true := hd.get 3 rfl; show some (x 3) = _; rw [d]) fun x w1 hC hd K hK => ?_) ?_
          · have d5 : x 5 = (.agg (ivs V) : Value) := hd.get 5 rfl
            have d6 : x 6 = (.agg (ivs V) : Value) := hd.get 6 rfl
            dsimp only at hK ⊢
            rw [d5, d6] at hK ⊢
            exact wp_value (v := (.bool true : Value)) ((exec_eqv (.tmp 67) (.tmp 68) _ rfl V V rfl rfl hVok.len hVok.len w1).trans (by simp)) (hK _ _ (Below.refl _ _) hC rfl)
          refine .cons (.plain rfl fun x w1 hC hd K hK => ?_) ?_
          · have d3 : x 3 = (.bool true : Value) := hd.get 3 rfl
            have d7 : x 7 = (.bool true : Value) := hd.get 7 rfl
            dsimp only at hK ⊢
            rw [d3, d7] at hK ⊢
            exact wp_value (v := (.bool true : Value)) (by rfl) (hK _ _ (Below.refl _ _) hC rfl)
          refine .cons (.plain rfl fun x w1 hC hd K hK => ?_) ?_
          · have d8 : x 8 = (.bool true : Value) := hd.get 8 rfl
            dsimp only at hK ⊢
            rw [d8] at hK ⊢
            exact wp_value (v := (.bool true : Value)) (by rfl) (hK _ _ (Below.refl _ _) hC rfl)
          refine .cons (.yes 9 true 71 rfl rfl (fun x w1 hC hd => by have d : x 9 = .bool true := hd.get 9 rfl; show some (x 9) = _; rw [d]) fun x w1 hC hd K hK => ?_) ?_
          · exact wp_load_row 25 (.tmp 3) rfl B rfl 25 (ivs V) (0, 0) _ ((hC.block _ (Array.getElem?_eq_some_iff.1 hx3).1).trans hx3) Try.underlying25 rfl (hvi) (hK _ _ (Below.refl _ _) hC rfl)
          refine .cons (.yes 9 true 71 rfl rfl (fun x w1 hC hd => by have d : x 9 = .bool true := hd.get 9 rfl; show some (x 9) = _; rw [d]) fun x w1 hC hd K hK => ?_) ?_
          · have d10 : x 10 = (.agg (ivs V) : Value) := hd.get 10 rfl
            dsimp only at hK ⊢
            rw [d10] at hK ⊢
            exact wp_called (f := 12) (args := #[.agg (ivs V)]) (exec_call 12 _ rfl _ rfl rfl #[.agg (ivs V)] rfl _ Try.func12 (by kernel_rfl) (by kernel_rfl) w1) (vGood_S V hVok.len (fun i => by have := hVok.lo i; have := hVok.hi i; omega) true HM.out.2 w1) (fun e w' ⟨he, hb⟩ => ⟨_, he, hK _ _ hb (hC.trans (hb.mono hC.size)) rfl⟩)
          refine .cons (.plain rfl fun x w1 hC hd K hK => ?_) ?_
          · have d9 : x 9 = (.bool true : Value) := hd.get 9 rfl
            have d11 : x 11 = (.bool true : Value) := hd.get 11 rfl
            dsimp only at hK ⊢
            rw [d9, d11] at hK ⊢
            exact wp_value (v := (.bool true : Value)) (by rfl) (hK _ _ (Below.refl _ _) hC rfl)
          refine .cons (.plain rfl fun x w1 hC hd K hK => ?_) ?_
          · have d12 : x 12 = (.bool true : Value) := hd.get 12 rfl
            dsimp only at hK ⊢
            rw [d12] at hK ⊢
            exact wp_value (v := (.bool true : Value)) (by rfl) (hK _ _ (Below.refl _ _) hC rfl)
          refine .cons (.yes 13 true 75 rfl rfl (fun x w1 hC hd => by have d : x 13 = .bool true := hd.get 13 rfl; show some (x 13) = _; rw [d]) fun x w1 hC hd K hK => ?_) ?_
          · exact wp_value (v := (.slice A (m + 1) c : Value)) (by rfl) (hK _ _ (Below.refl _ _) hC rfl)
          refine .cons (.yes 13 true 75 rfl rfl (fun x w1 hC hd => by have d : x 13 = .bool true := hd.get 13 rfl; show some (x 13) = _; rw [d]) fun x w1 hC hd K hK => ?_) ?_
          · have d14 : x 14 = (.slice A (m + 1) c : Value) := hd.get 14 rfl
            dsimp only at hK ⊢
            rw [d14] at hK ⊢
            exact wp_value (v := (.int .i64 ((m : Int) + 1) : Value)) (by go_simp) (hK _ _ (Below.refl _ _) hC rfl)
          refine .cons (.yes 13 true 75 rfl rfl (fun x w1 hC hd => by have d : x 13 = .bool true := hd.get 13 rfl; show some (x 13) = _; rw [d]) fun x w1 hC hd K hK => ?_) ?_
          · have d15 : x 15 = (.int .i64 ((m : Int) + 1) : Value) := hd.get 15 rfl
            dsimp only at hK ⊢
            rw [d15] at hK ⊢
            exact wp_value (v := (.bool false : Value)) (by go_simp; omega) (hK _ _ (Below.refl _ _) hC rfl)
          refine .cons (.yes 13 true 75 rfl rfl (fun x w1 hC hd => by have d : x 13 = .bool true := hd.get 13 rfl; show some (x 13) = _; rw [d]) fun x w1 hC hd K hK => ?_) ?_
          · have d16 : x 16 = (.bool false : Value) := hd.get 16 rfl
            dsimp only at hK ⊢
            rw [d16] at hK ⊢
            exact wp_value (v := (.bool false : Value)) (by rfl) (hK _ _ (Below.refl _ _) hC rfl)
          refine .cons (.no (fun _ => Below.refl _ _) 17 true 79 rfl rfl (fun x w1 hC hd => .inl (by have d : x 17 = .bool false := hd.get 17 rfl; show some (x 17) = _; rw [d]; rfl)) (fun _ _ => rfl)) ?_
          refine .cons (.no (fun _ => Below.refl _ _) 17 true 79 rfl rfl (fun x w1 hC hd => .inl (by have d : x 17 = .bool false := hd.get 17 rfl; show some (x 17) = _; rw [d]; rfl)) (fun _ _ => rfl)) ?_
          refine .cons (.no (fun _ => Below.refl _ _) 17 true 79 rfl rfl (fun x w1 hC hd => .inl (by have d : x 17 = .bool false := hd.get 17 rfl; show some (x 17) = _; rw [d]; rfl)) (fun _ _ => rfl)) ?_
          refine .cons (.yes 13 true 75 rfl rfl (fun x w1 hC hd => by have d : x 13 = .bool true := hd.get 13 rfl; show some (x 13) = _; rw [d]) fun x w1 hC hd K hK => ?_) ?_
          · have d17 : x 17 = (.bool false : Value) := hd.get 17 rfl
            have d20 : x 20 = (undef : Value) := hd.get 20 rfl
            dsimp only at hK ⊢
            rw [d17, d20] at hK ⊢
            exact wp_value (v := (.bool false : Value)) (by rfl) (hK _ _ (Below.refl _ _) hC rfl)
          refine .cons (.yes 13 true 75 rfl rfl (fun x w1 hC hd => by have d : x 13 = .bool true := hd.get 13 rfl; show some (x 13) = _; rw [d]) fun x w1 hC hd K hK => ?_) ?_
          · have d21 : x 21 = (.bool false : Value) := hd.get 21 rfl
            dsimp only at hK ⊢
            rw [d21] at hK ⊢
            exact wp_value (v := (.bool false : Value)) (by rfl) (hK _ _ (Below.refl _ _) hC rfl)
          refine .cons (.yes 22 false 84 rfl rfl (fun x w1 hC hd => by have d : x 22 = .bool false := hd.get 22 rfl; show some (x 22) = _; rw [d]) fun x w1 hC hd K hK => ?_) ?_
          · exact wp_value (v := (.slice (some ⟨b, off, none⟩) 1 c5 : Value)) (by rfl) (hK _ _ (Below.refl _ _) hC rfl)
          refine .cons (.yes 22 false 84 rfl rfl (fun x w1 hC hd => by have d : x 22 = .bool false := hd.get 22 rfl; show some (x 22) = _; rw [d]) fun x w1 hC hd K hK => ?_) ?_
          · have d23 : x 23 = (.slice (some ⟨b, off, none⟩) 1 c5 : Value) := hd.get 23 rfl
            dsimp only at hK ⊢
            rw [d23] at hK ⊢
            exact wp_value (v := (.int .i64 1 : Value)) (by go_simp) (hK _ _ (Below.refl _ _) hC rfl)
          refine .cons (.yes 22 false 84 rfl rfl (fun x w1 hC hd => by have d : x 22 = .bool false := hd.get 22 rfl; show some (x 22) = _; rw [d]) fun x w1 hC hd K hK => ?_) ?_
          · have d24 : x 24 = (.int .i64 1 : Value) := hd.get 24 rfl
            dsimp only at hK ⊢
            rw [d24] at hK ⊢
            exact wp_value (v := (.bool true : Value)) (by go_simp) (hK _ _ (Below.refl _ _) hC rfl)
          refine .cons (.yes 22 false 84 rfl rfl (fun x w1 hC hd => by have d : x 22 = .bool false := hd.get 22 rfl; show some (x 22) = _; rw [d]) fun x w1 hC hd K hK => ?_) ?_
          · have d25 : x 25 = (.bool true : Value) := hd.get 25 rfl
            dsimp only at hK ⊢
            rw [d25] at hK ⊢
            exact wp_value (v := (.bool true : Value)) (by rfl) (hK _ _ (Below.refl _ _) hC rfl)
          refine .cons (.yes 26 true 88 rfl rfl (fun x w1 hC hd => by have d : x 26 = .bool true := hd.get 26 rfl; show some (x 26) = _; rw [d]) fun x w1 hC hd K hK => ?_) ?_
          · exact wp_value (v := (.slice (some ⟨b, off, none⟩) 1 c5 : Value)) (by rfl) (hK _ _ (Below.refl _ _) hC rfl)
          refine .cons (.yes 26 true 88 rfl rfl (fun x w1 hC hd => by have d : x 26 = .bool true := hd.get 26 rfl; show some (x 26) = _; rw [d]) fun x w1 hC hd K hK => ?_) ?_
          · have d27 : x 27 = (.slice (some ⟨b, off, none⟩) 1 c5 : Value) := hd.get 27 rfl
            dsimp only at hK ⊢
            rw [d27] at hK ⊢
            exact wp_value (v := (.pointer (some ⟨b, off, none⟩) : Value)) (by go_simp) (hK _ _ (Below.refl _ _) hC rfl)
          refine .cons (.yes 26 true 88 rfl rfl (fun x w1 hC hd => by have d : x 26 = .bool true := hd.get 26 rfl; show some (x 26) = _; rw [d]) fun x w1 hC hd K hK => ?_) ?_
          · have d28 : x 28 = (.pointer (some ⟨b, off, none⟩) : Value) := hd.get 28 rfl
            dsimp only at hK ⊢
            rw [d28] at hK ⊢
            exact wp_value (v := (.int .i64 (m : Nat) : Value)) (by have c1 := hcell w1 hC; go_simp) (hK _ _ (Below.refl _ _) hC rfl)
          refine .cons (.yes 26 true 88 rfl rfl (fun x w1 hC hd => by have d : x 26 = .bool true := hd.get 26 rfl; show some (x 26) = _; rw [d]) fun x w1 hC hd K hK => ?_) ?_
          · exact wp_value (v := (.slice A (m + 1) c : Value)) (by rfl) (hK _ _ (Below.refl _ _) hC rfl)
          refine .cons (.yes 26 true 88 rfl rfl (fun x w1 hC hd => by have d : x 26 = .bool true := hd.get 26 rfl; show some (x 26) = _; rw [d]) fun x w1 hC hd K hK => ?_) ?_
          · have d30 : x 30 = (.slice A (m + 1) c : Value) := hd.get 30 rfl
            dsimp only at hK ⊢
            rw [d30] at hK ⊢
            exact wp_value (v := (.int .i64 ((m : Int) + 1) : Value)) (by go_simp) (hK _ _ (Below.refl _ _) hC rfl)
          refine .cons (.yes 26 true 88 rfl rfl (fun x w1 hC hd => by have d : x 26 = .bool true := hd.get 26 rfl; show some (x 26) = _; rw [d]) fun x w1 hC hd K hK => ?_) ?_
          · have d31 : x 31 = (.int .i64 ((m : Int) + 1) : Value) := hd.get 31 rfl
            dsimp only at hK ⊢
            rw [d31] at hK ⊢
            exact wp_value (v := (.int .i64 (m : Nat) : Value)) (by have hmw := IntWalk.i64_in (m : Int) (by omega); go_simp) (hK _ _ (Below.refl _ _) hC rfl)
          refine .cons (.yes 26 true 88 rfl rfl (fun x w1 hC hd => by have d : x 26 = .bool true := hd.get 26 rfl; show some (x 26) = _; rw [d]) fun x w1 hC hd K hK => ?_) ?_
          · have d29 : x 29 = (.int .i64 (m : Nat) : Value) := hd.get 29 rfl
            have d32 : x 32 = (.int .i64 (m : Nat) : Value) := hd.get 32 rfl
            dsimp only at hK ⊢
            rw [d29, d32] at hK ⊢
            exact wp_value (v := (.bool true : Value)) (by go_simp) (hK _ _ (Below.refl _ _) hC rfl)
          refine .cons (.yes 22 false 84 rfl rfl (fun x w1 hC hd => by have d : x 22 = .bool false := hd.get 22 rfl; show some (x 22) = _; rw [d]) fun x w1 hC hd K hK => ?_) ?_
          · have d26 : x 26 = (.bool true : Value) := hd.get 26 rfl
            have d33 : x 33 = (.bool true : Value) := hd.get 33 rfl
            dsimp only at hK ⊢
            rw [d26, d33] at hK ⊢
            exact wp_value (v := (.bool true : Value)) (by rfl) (hK _ _ (Below.refl _ _) hC rfl)
          refine .cons (.yes 13 true 75 rfl rfl (fun x w1 hC hd => by have d : x 13 = .bool true := hd.get 13 rfl; show some (x 13) = _; rw [d]) fun x w1 hC hd K hK => ?_) ?_
          · have d22 : x 22 = (.bool false : Value) := hd.get 22 rfl
            have d34 : x 34 = (.bool true : Value) := hd.get 34 rfl
            dsimp only at hK ⊢
            rw [d22, d34] at hK ⊢
            exact wp_value (v := (.bool true : Value)) (by rfl) (hK _ _ (Below.refl _ _) hC rfl)
          refine .cons (.plain rfl fun x w1 hC hd K hK => ?_) ?_
          · have d13 : x 13 = (.bool true : Value) := hd.get 13 rfl
            have d35 : x 35 = (.bool true : Value) := hd.get 35 rfl
            dsimp only at hK ⊢
            rw [d13, d35] at hK ⊢
            exact wp_value (v := (.bool true : Value)) (by rfl) (hK _ _ (Below.refl _ _) hC rfl)
          refine .cons (.plain rfl fun x w1 hC hd K hK => ?_) ?_
          · have d36 : x 36 = (.bool true : Value) := hd.get 36 rfl
            dsimp only at hK ⊢
            rw [d36] at hK ⊢
            exact wp_value (v := (.bool true : Value)) (by rfl) (hK _ _ (Below.refl _ _) hC rfl)
          exact .nil
        case xfin =>
          intro z w9 hC hΦ
          have d : z 37 = .bool true := hΦ 37 (by decide)
          dsimp only
          rw [d]
          clear hΦ d
          go_wp2
          go_ret
          exact ⟨rfl, HB.out.trans (hC.mono HB.out.size)⟩

theorem VectorChains_walk (A : Option Addr) (c : Nat) (xs : List Nat) (w : World) (h : RowU8 w A xs ∧ xs.length ≤ 9223372036854775807) :
    Calls Try.prog 6 #[.slice A xs.length c] w fun e W' => e = .returned (.bool true) ∧ Below w.heap.size w W' := by
  rcases Nat.lt_or_ge 60 xs.length with hl | hl
  · exact chains_long A c xs.length hl h.2 w
  · exact chains_short A c xs w h.1 hl

end Go.Proofs.Ytilnkfcggfaheaa
