/-
  The walk of VectorLasts.
-/
import Derived.Test.YtilnkfcggfaheaaVecLastsM
import Derived.Test.YtilnkfcggfaheaaReg2
import Derived.Test.YtilnkfcggfaheaaVecRMerge
import Derived.Test.YtilnkfcggfaheaaVecBumpW
namespace Go.Proofs.Ytilnkfcggfaheaa
open Go.RowKit Go.Shelf

theorem wpList_bsl {P : Program} {ops : Array Oper} {rest : List Oper} {o : Oper} {a : Act} {w : World} {Q : Exit → Act → World → Prop} (hgd : o.guard = none) (T : TypeId) (n : Nat) (parts : Array (Nat × Operand)) (ho : o.op = .buildSlice T n parts) (ps : List (Nat × Value))
    (hp : parts.toList.map (fun p => (p.1, a.eval p.2)) = ps) (v : Value) (w' : World) (h : (Instr.buildSlice T n ps.toArray).run P w = .ok v w') (hk : wpList P ops Q rest (a.put o.dst v) w') : wpList P ops Q (o :: rest) a w :=
  wpList_plain hgd fun _ hK => wp_value' (exec_build T n parts ho ps hp h) (hK _ _ hk)

theorem ivl_one (V : List Int) : ∀ u ∈ ivl V, u.oneCell' = true := by
  intro u hu
  obtain ⟨x, -, rfl⟩ := List.mem_map.1 hu
  rfl

set_option maxRecDepth 100000 in
set_option maxHeartbeats 1000000 in
theorem lasts_long (A : Option Addr) (c len : Nat) (hl : 20 < len) (hm : len ≤ 9223372036854775807) (w : World) :
    Calls Try.prog 5 #[.slice A len c] w fun e W' => e = .returned (.bool true) ∧ Below w.heap.size w W' := by
  have t1 : decide ((len : Int) > 20) = true := by simp; omega
  go_enter Try.func5, Try.ntmps5
  go_wp2_with (fail)
  refine (awake_any _).mono ?_
  rintro e w1 ⟨rfl, h1⟩
  go_wp2_with (fail)
  refine (awake_any _).mono ?_
  rintro e w2 ⟨rfl, h2⟩
  go_wp2
  go_ret
  exact ⟨rfl, h1.trans (h2.mono h1.size)⟩

set_option maxRecDepth 100000 in
set_option maxHeartbeats 4000000 in
theorem lasts_short (A : Option Addr) (c : Nat) (Vs : List (List Int)) (w : World) (hr : RowV w A (Vs.flatMap ivl)) (hok : ∀ V ∈ Vs, V.length = 16 ∧ ∀ i : Nat, -9223372036854775808 ≤ V[i]?.getD 0 ∧ V[i]?.getD 0 ≤ 9223372036854775807) (hm : Vs.length ≤ 20) :
    Calls Try.prog 5 #[.slice A Vs.length c] w fun e W' => e = .returned (.bool true) ∧ Below w.heap.size w W' := by
  obtain ⟨len, hlen⟩ : ∃ n, n = Vs.length := ⟨_, rfl⟩
  rw [← hlen] at hm ⊢
  have HL := Lib.hid hlen
  have HOK := Lib.hid hok
  have HR := Lib.hid hr
  have hinfo : (Try.prog.info? 25).map (fun i => (i.zero, i.size, i.bytes)) = some (some (.agg vz), 16, 128) := by kernel_rfl
  obtain ⟨i0, hi, hz0, hz1, hz2⟩ := info_parts hinfo
  have HI := Lib.hid (And.intro hi (And.intro hz0 (And.intro hz1 hz2)))
  clear hinfo hi hz0 hz1 hz2 hr
  clear hlen hok
  have hz := run_zero_arr
  have t1 : decide ((len : Int) > 20) = false := by simp; omega
  go_enter Try.func5, Try.ntmps5
  go_wp2_with (fail)
  refine (awake_any _).mono ?_
  rintro e w1 ⟨rfl, h1⟩
  go_wp2
  go_loopg [3, 24] len (fun g s3 s24 wx => ∃ (k : Nat) (A3 : Option Addr) (c3 : Nat), k + g = len ∧ s24 = .int .i64 k ∧ s3 = .slice A3 k c3 ∧ wx.ownsRow w.heap.size 25 16 (.slice A3 k c3) k ((Vs.take k).flatMap ivl) ∧ (∀ V ∈ Vs.take k, good V = true) ∧ Below w.heap.size w wx)
  case atStart => exact ⟨0, none, 0, by omega, rfl, rfl, World.ownsRow_nil _ _ _ _, by simp, h1⟩
  case round =>
    obtain ⟨k, A3, c3, hkg, rfl, rfl, hown, hgood, hbel⟩ := hrel
    cases gk with
    | succ g =>
      have hlt : (k : Int) < (len : Int) := by omega
      have hkl : k < len := by omega
      obtain ⟨b, off, e1, hrg⟩ := vec_range (HR.out.keep hbel) (fun V hV => (HOK.out V hV).1) k (by rw [← HL.out]; exact hkl)
      subst e1
      obtain ⟨V, hVe⟩ : ∃ V, Vs[k]?.getD [] = V := ⟨_, rfl⟩
      rw [hVe] at hrg
      have hV : V.length = 16 ∧ ∀ i : Nat, -9223372036854775808 ≤ V[i]?.getD 0 ∧ V[i]?.getD 0 ≤ 9223372036854775807 := by
        rw [← hVe]
        have h' : k < Vs.length := by rw [← HL.out]; exact hkl
        rw [List.getElem?_eq_getElem h']; exact HOK.out _ (List.getElem_mem h')
      have hvzs : vz.size = (ivs V).size := by rw [ivs_size, hV.1]; rfl
      have hvi := arr_info hV.1
      have hvl : (Try.prog.info? 22).map (·.size) = some (ivl V).length := by rw [ivl_length, hV.1]; exact Try.infoArr
      have hn1 := heap_alloc_new wr (Obj.cells vz 22)
      have hx5 := heap_alloc_new wr (Obj.cells (ivs V) 22)
      have hown1 := hown.alloc (.cells (ivs V) 22)
      have hbel1 := hbel.alloc hbel.size (.cells (ivs V) 22)
      have HO := Lib.hid (And.intro hown1 (And.intro hbel1 hgood))
      have HV := Lib.hid (And.intro hV hVe)
      clear hown hbel hgood hown1 hbel1 hV hVe
      generalize hb5 : wr.heap.size = b5 at *
      generalize hW2 : wr.alloc (.cells (ivs V) 22) = W2 at *
      go_wp2_with (first
        | (refine wpList_load_mid rfl 22 (.tmp 26) rfl b (off + k * 16) rfl (ivl V) _ hrg Try.underlying22 rfl hvl ?_)
        | (refine wpList_store_row rfl 22 (.tmp 5) (.tmp 27) rfl b5 22 vz (ivs V) rfl rfl hn1 hvi hvzs (ivs_one V) ?_; rw [← hb5, setRow_new, hb5, hW2])
        | (refine wpList_load_row rfl 22 (.tmp 5) rfl b5 rfl 22 (ivs V) (0, 0) _ hx5 Try.underlying22 rfl hvi ?_))
      obtain ⟨gv, hgv⟩ : ∃ v, good V = v := ⟨_, rfl⟩
      refine (rGood_R V HV.out.1.1 HV.out.1.2 gv hgv _).mono ?_
      rintro e w3 ⟨rfl, h3⟩
      have HGV := Lib.hid hgv
      clear hgv
      have hx6 := (h3.block _ (Array.getElem?_eq_some_iff.1 hx5).1).trans hx5
      have HP := Lib.hid (And.intro (ownsRow_under HO.out.1 h3) (HO.out.2.1.trans (h3.mono HO.out.2.1.size)))
      clear hrg hn1 hx5 hb5 hW2 hvzs h3
      cases gv with
      | false =>
        go_wp2
        go_ret
        exact ⟨rfl, HP.out.2⟩
      | true =>
        have hown4 := HP.out.1.alloc (.cells (ivl V).toArray 25)
        have hbel4 := HP.out.2.alloc HP.out.2.size (.cells (ivl V).toArray 25)
        have hrow := row_new w3 (ivl V) 25
        have HQ := Lib.hid (And.intro hown4 (And.intro hbel4 hrow))
        have hbs := run_bs1 V HV.out.1.1 w3
        have hcat : [V].flatMap ivl = ivl V := by simp
        rw [hcat] at hbs
        have HBS := Lib.hid hbs
        clear hown4 hbel4 hrow hbs hcat
        go_wp2_with (first
          | (refine wpList_load_row rfl 22 (.tmp 5) rfl b5 rfl 22 (ivs V) (0, 0) _ hx6 Try.underlying22 rfl hvi ?_)
          | (refine wpList_bsl rfl 37 1 #[(0, .tmp 32)] rfl [(0, .agg (ivs V))] (by rfl) (.slice (some ⟨w3.heap.size, 0, none⟩) 1 1) (w3.alloc (.cells (ivl V).toArray 25)) HBS.out ?_)
          | (refine wpList_append_rowv _ rfl (.tmp 31) (.tmp 33) 37 rfl w.heap.size 25 i0 (.agg vz) 16 128 Try.underlying37 HI.out.1 HI.out.2.1 HI.out.2.2.1 HI.out.2.2.2 (by rfl) (by omega) (.slice A3 k c3) k ((Vs.take k).flatMap ivl) rfl HQ.out.1 (some ⟨w3.heap.size, 0, none⟩) 1 1 (ivl V) rfl HQ.out.2.2 (by rw [ivl_length, HV.out.1.1]) (ivl_one V) (by unfold maxLen; omega) (by omega) HQ.out.2.1.size ?_; intro A' c' w' hown' hgr))
        have htk : Vs.take (k + 1) = Vs.take k ++ [V] := by
          rw [List.take_succ_eq_append_getElem (by rw [← HL.out]; exact hkl), ← HV.out.2, List.getElem?_eq_getElem (by rw [← HL.out]; exact hkl)]; rfl
        have HZ := Lib.hid (And.intro htk (And.intro hown' hgr))
        clear htk hown' hgr
        go_roundg g
        case measure => omega
        case rel =>
          refine ⟨k + 1, A', c', by omega, by go_num, rfl, ?_, fun X hX => ?_, ?_⟩
          · rw [HZ.out.1, List.flatMap_append]
            have := HZ.out.2.1
            simpa using this
          · rw [HZ.out.1] at hX
            rcases List.mem_append.1 hX with h | h
            · exact HO.out.2.2 X h
            · rw [List.mem_singleton] at h; subst h; exact HGV.out
          · exact HQ.out.2.1.grown HZ.out.2.2 HQ.out.2.1.size (fun j hj => ((HQ.out.1.lt j hj).1))
    | zero =>
      have hkz : ¬ ((k : Int) < (len : Int)) := by omega
      obtain rfl : k = len := by omega
      have htk : Vs.take k = Vs := List.take_of_length_le (by rw [← HL.out]; exact Nat.le_refl _)
      rw [htk] at hown hgood
      have HGd := Lib.hid hgood
      have HLa := Lib.hid (Last_any A3 c3 Vs wr (RowV.of_own hown) (fun V hV => good_ok (HOK.out V hV).1 (hgood V hV)) (by rw [← HL.out]; omega))
      have HBl := Lib.hid hbel
      clear htk hown hgood hbel
      go_wp2_with (fail)
      have h := HLa.out
      rw [← HL.out] at h
      refine h.mono ?_
      clear h HLa
      rintro e w2 ⟨A5, c5, rfl, hown5, h2⟩
      have hb2 := HBl.out.trans (h2.mono HBl.out.size)
      obtain ⟨nn, hnn⟩ : ∃ n, (lastsTo Vs k).length = n := ⟨_, rfl⟩
      have HN := Lib.hid hnn
      have hnb : nn ≤ 20 := by rw [← hnn]; exact Nat.le_trans (lastsTo_length Vs k) hm
      rw [hnn] at hown5 ⊢
      have H5 := Lib.hid (And.intro hown5 hb2)
      clear hown5 h2 hb2 hnn
      go_wp2_with (fail)
      have h := rLast_any A c Vs w2 (HR.out.keep H5.out.2) (fun V hV => (HOK.out V hV).1) (by rw [← HL.out]; omega)
      rw [← HL.out, HN.out] at h
      refine h.mono ?_
      clear h
      rintro e w3 ⟨A6, c6, rfl, hown6, h3⟩
      have H6 := Lib.hid (And.intro (RowV.of_own (ownsRow_under H5.out.1 h3)) (And.intro (RowV.of_own hown6) (H5.out.2.trans (h3.mono H5.out.2.size))))
      clear hown6 h3
      go_wp2
      go_loopg [8, 47] nn (fun g s8 s47 wx => ∃ j n : Nat, j + g = nn ∧ s47 = .int .i64 j ∧ wx = w3.drewN n)
      case atStart => exact ⟨0, 0, by omega, rfl, rfl⟩
      case round =>
        obtain ⟨j, n, hjg, rfl, rfl⟩ := hrel
        cases gk with
        | succ g =>
          have hlz : (j : Int) < (nn : Int) := by omega
          have HJ := Lib.hid hjg
          have hl : (ints (lastsTo Vs k)).length = nn := by rw [ints_length, HN.out]
          obtain ⟨x5, o5, e5, hc5⟩ := H6.out.1.form (by omega)
          obtain ⟨x6, o6, e6, hc6⟩ := H6.out.2.1.form (by omega)
          have c1 := hc5 j (by omega)
          have c2 := hc6 j (by omega)
          have hg : (ints (lastsTo Vs k))[j]? = some (.int .i64 ((lastsTo Vs k)[j]?.getD 0 : Nat)) := by
            unfold ints; rw [List.getElem?_map, List.getElem?_eq_getElem (by rw [HN.out]; omega)]; rfl
          rw [hg] at c1 c2
          generalize (lastsTo Vs k)[j]?.getD 0 = y at c1 c2
          clear hg hl hc5 hc6
          subst e5 e6
          go_wp2
          go_quiet (fail)
          go_wp2
          go_roundg g
          case measure => omega
          case rel => exact ⟨j + 1, n + nq, by have := HJ.out; omega, by go_num, by simp⟩
        | zero =>
          have hkz : ¬ ((j : Int) < (nn : Int)) := by omega
          obtain rfl : nn = j := by omega
          have HW := Lib.hid (show Below w.heap.size w (w3.drewN n) from below_drewN H6.out.2.2 _)
          clear H5
          generalize hw4 : w3.drewN n = w4 at *
          have HR5 := Lib.hid (show RowV w4 A5 (ints (lastsTo Vs k)) by rw [← hw4]; exact H6.out.1.keep (below_drewN (Below.refl _ _) _))
          clear hw4 H6
          go_wp2
          go_loopg [62] k (fun g s62 wx => ∃ i : Nat, i + g = k ∧ s62 = .int .i64 i ∧ Below w4.heap.size w4 wx)
          case atStart => exact ⟨0, by omega, rfl, Below.refl _ _⟩
          case round =>
            obtain ⟨i, hig, rfl, hbel⟩ := hrel
            cases gk with
            | zero =>
              have hkz : ¬ ((i : Int) < (k : Int)) := by omega
              obtain rfl : i = k := by omega
              have HF := Lib.hid hbel
              clear hbel
              go_wp2
              go_ret
              exact ⟨rfl, HW.out.trans (HF.out.mono HW.out.size)⟩
            | succ g =>
              have hlt : (i : Int) < (k : Int) := by omega
              have hil : i < k := by omega
              have HJ := Lib.hid hig
              obtain ⟨b, off, e1, hrg⟩ := vec_range ((HR.out.keep HW.out).keep hbel) (fun V hV => (HOK.out V hV).1) i (by rw [← HL.out]; exact hil)
              subst e1
              obtain ⟨V, hVe⟩ : ∃ V, Vs[i]?.getD [] = V := ⟨_, rfl⟩
              rw [hVe] at hrg
              have hV : V.length = 16 := by
                rw [← hVe]
                have h' : i < Vs.length := by rw [← HL.out]; exact hil
                rw [List.getElem?_eq_getElem h']; exact (HOK.out _ (List.getElem_mem h')).1
              have hvzs : vz.size = (ivs V).size := by rw [ivs_size, hV]; rfl
              have hvi := arr_info hV
              have hvl : (Try.prog.info? 22).map (·.size) = some (ivl V).length := by rw [ivl_length, hV]; exact Try.infoArr
              have hn1 := heap_alloc_new wr (Obj.cells vz 22)
              have hx10 := heap_alloc_new wr (Obj.cells (ivs V) 22)
              have hbel1 := hbel.alloc hbel.size (.cells (ivs V) 22)
              have HO := Lib.hid (And.intro hbel1 hx10)
              have HV := Lib.hid (And.intro hV hVe)
              clear hbel hbel1 hV hVe hx10
              generalize hb10 : wr.heap.size = b10 at *
              generalize hW5 : wr.alloc (.cells (ivs V) 22) = W5 at *
              go_wp2_with (first
                | (refine wpList_load_mid rfl 22 (.tmp 64) rfl b (off + i * 16) rfl (ivl V) _ hrg Try.underlying22 rfl hvl ?_)
                | (refine wpList_store_row rfl 22 (.tmp 10) (.tmp 65) rfl b10 22 vz (ivs V) rfl rfl hn1 hvi hvzs (ivs_one V) ?_; rw [← hb10, setRow_new, hb10, hW5]))
              clear hrg hn1 hb10 hW5 hvzs
              go_loopg [11, 68] nn (fun g' s11 s68 wx => ∃ (j : Nat), j + g' = nn ∧ s68 = .int .i64 j ∧ s11 = .bool ((List.range j).any fun q => cov (Vs[(lastsTo Vs k)[q]?.getD 0]?.getD []) V) ∧ Below w4.heap.size w4 wx ∧ wx.heap[b10]? = some (.cells (ivs V) 22 (0, 0)))
              case atStart => exact ⟨0, by omega, rfl, rfl, HO.out⟩
              case round =>
                clear HO
                obtain ⟨j, hjg, rfl, rfl, hbel, hx⟩ := hrel
                cases gk with
                | zero =>
                  have hkz : ¬ ((j : Int) < (nn : Int)) := by omega
                  obtain rfl : nn = j := by omega
                  have hcov : ((List.range nn).any fun q => cov (Vs[(lastsTo Vs k)[q]?.getD 0]?.getD []) V) = true := by
                    obtain ⟨q, hq, hc⟩ := covered_by HGd.out i (by rw [← HL.out]; exact hil)
                    rw [← HL.out] at hq
                    obtain ⟨p, hp, he⟩ := List.mem_iff_getElem.1 hq
                    rw [List.any_eq_true]
                    refine ⟨p, List.mem_range.2 (by rw [← HN.out]; exact hp), ?_⟩
                    rw [List.getElem?_eq_getElem hp]
                    rw [HV.out.2] at hc
                    show cov (Vs[(lastsTo Vs k)[p]]?.getD []) V = true
                    rw [he]
                    exact hc
                  rw [hcov]
                  have HF := Lib.hid hbel
                  clear hcov hbel hx
                  go_wp2
                  go_roundg g
                  case measure => omega
                  case rel => exact ⟨i + 1, by have := HJ.out; omega, by go_num, HF.out⟩
                | succ g' =>
                  have hlz : (j : Int) < (nn : Int) := by omega
                  have hjn : j < nn := by omega
                  have HJ2 := Lib.hid hjg
                  have hl : (ints (lastsTo Vs k)).length = nn := by rw [ints_length, HN.out]
                  obtain ⟨x5, o5, e5, hc5⟩ := (HR5.out.keep hbel).form (by omega)
                  have c1 := hc5 j (by omega)
                  have hjl : j < (lastsTo Vs k).length := by rw [HN.out]; exact hjn
                  have hg : (ints (lastsTo Vs k))[j]? = some (.int .i64 ((lastsTo Vs k)[j]?.getD 0 : Nat)) := by
                    unfold ints; rw [List.getElem?_map, List.getElem?_eq_getElem hjl]; rfl
                  rw [hg] at c1
                  have HS := Lib.hid (show ∀ q, (List.range (j + 1)).any q = ((List.range j).any q || q j) by intro q; rw [List.range_succ, List.any_append]; simp)
                  have hyk : (lastsTo Vs k)[j]?.getD 0 < k := by
                    rw [List.getElem?_eq_getElem hjl]
                    have := List.getElem_mem hjl
                    unfold lastsTo at this
                    rw [List.mem_filter, List.mem_range] at this
                    exact this.1
                  subst e5
                  generalize hye : (lastsTo Vs k)[j]?.getD 0 = y at *
                  have HY := Lib.hid hye
                  generalize hbe : ((List.range j).any fun q => cov (Vs[(lastsTo Vs k)[q]?.getD 0]?.getD []) V) = bb at *
                  have HBe := Lib.hid hbe
                  have HC := Lib.hid (And.intro hbel hx)
                  clear hbel hx hc5 hg hye hbe hl
                  obtain ⟨U, hUe⟩ : ∃ U, Vs[y]?.getD [] = U := ⟨_, rfl⟩
                  have hU : U.length = 16 := by
                    rw [← hUe]
                    have h' : y < Vs.length := by rw [← HL.out]; exact hyk
                    rw [List.getElem?_eq_getElem h']; exact (HOK.out _ (List.getElem_mem h')).1
                  have HRG : Hid (∀ w1, Below wr.heap.size wr w1 → w1.rangeAt b (off + y * 16) (ivl U)) := Lib.hid (fun w1 hC => by
                    obtain ⟨_, _, e1, h⟩ := vec_range (((HR.out.keep HW.out).keep HC.out.1).keep hC) (fun V hV => (HOK.out V hV).1) y (by rw [← HL.out]; exact hyk)
                    cases e1
                    rw [hUe] at h
                    exact h)
                  have HU := Lib.hid (And.intro hU hUe)
                  obtain ⟨cU, hcU⟩ : ∃ v, cov U V = v := ⟨_, rfl⟩
                  have HCU := Lib.hid hcU
                  have hyz : (y : Int) < (k : Int) := by omega
                  have hvV := HV.out.1
                  have HAny := Lib.hid (show ((List.range (j + 1)).any fun q => cov (Vs[(lastsTo Vs k)[q]?.getD 0]?.getD []) V) = (bb || cU) by rw [HS.out, HBe.out, HY.out, hUe, hcU])
                  clear hU hUe hcU
                  go_wp2
                  cases bb with
                  | true =>
                    refine wp_region_rel2 rfl (fun W' => Below wr.heap.size wr W') (fun W1 W2 => Below W1.heap.size W1 W2)
                      (fun i => ([fun v _ => v = (.bool true : Value), fun v _ => v = (.bool true : Value), fun v _ => v = (undef : Value), fun v _ => v = (undef : Value), fun v _ => v = (undef : Value), fun v _ => v = (undef : Value), fun v _ => v = (undef : Value), fun v _ => v = (undef : Value), fun v _ => v = (.bool true : Value), fun v _ => v = (.bool true : Value)][i]?).getD (fun _ _ => True))
                      (fun x => { tmps := #[.slice (some ⟨b, off, none⟩) k c, undef, u2, .slice A3 k c3, undef, u5, .slice (some ⟨x5, o5, none⟩) nn c5, .slice A6 nn c6, u8, undef, .pointer (some ⟨b10, 0, none⟩), x 9, undef, .int .i64 (y : Nat), .bool true, .bool false, .bool false, .slice (some ⟨b, off, none⟩) k c, .int .i64 (k : Nat), .bool false, .bool false, undef, .slice (some ⟨b, off, none⟩) k c, .int .i64 (k : Nat), .int .i64 (k : Nat), .bool false, u26, u27, u28, u29, u30, u31, u32, u33, u34, u35, .slice A3 k c3, .slice (some ⟨x5, o5, none⟩) nn c5, .slice (some ⟨b, off, none⟩) k c, .slice A6 nn c6, .slice (some ⟨x5, o5, none⟩) nn c5, .int .i64 (nn : Nat), .slice A6 nn c6, .int .i64 (nn : Nat), .bool false, .slice (some ⟨x5, o5, none⟩) nn c5, .int .i64 (nn : Nat), .int .i64 (nn : Nat), .bool false, u49, u50, u51, u52, u53, u54, u55, u56, u57, u58, u59, .slice (some ⟨b, off, none⟩) k c, .int .i64 (k : Nat), .int .i64 (i : Nat), .bool true, .pointer (some ⟨b, off + i * 16, none⟩), .agg (ivl V).toArray, .slice (some ⟨x5, o5, none⟩) nn c5, .int .i64 (nn : Nat), .int .i64 (j : Nat), .bool true, .pointer (some ⟨x5, o5 + j, none⟩), .int .i64 (y : Nat), x 0, x 1, x 2, x 3, x 4, x 5, x 6, x 7, x 8, u81, u82, u83, u84], defers := [] }) (fun i => ([(u72 : Value), (u73 : Value), (u74 : Value), (u75 : Value), (u76 : Value), (u77 : Value), (u78 : Value), (u79 : Value), (u80 : Value), (.bool true : Value)][i]?).getD undef) (fun x => by simp only [fillL, Act.put, List.setIfInBounds_toArray, List.set_cons_zero, List.set_cons_succ, Nat.reduceAdd]) rfl (by kernel_rfl) (by kernel_rfl) ?xst ((Below.refl _ _).drew) ?xop ?xfin
                    case xst =>
                      intro i v w1 w2 h hb
                      rcases i with _ | _ | _ | _ | _ | _ | _ | _ | _ | _ | i
                      · exact h
                      · exact h
                      · exact h
                      · exact h
                      · exact h
                      · exact h
                      · exact h
                      · exact h
                      · exact h
                      · exact h
                      · exact h
                    case xop =>
                      refine .cons (.plain rfl fun x w1 hC hd hl K hK => ?_) ?_
                      · have l9 : x 9 = (.bool true : Value) := hl 9 _ rfl rfl
                        dsimp only at hK ⊢
                        rw [l9] at hK ⊢
                        exact wp_value (v := (.bool true : Value)) (by rfl) (hK _ _ (Below.refl _ _) hC rfl)
                      refine .cons (StepOp.late (.plain rfl fun x w1 hC hd K hK => ?_)) ?_
                      · have d0 : x 0 = (.bool true : Value) := hd.get 0 rfl
                        dsimp only at hK ⊢
                        rw [d0] at hK ⊢
                        exact wp_value (v := (.bool true : Value)) (by rfl) (hK _ _ (Below.refl _ _) hC rfl)
                      refine .cons (StepOp.late (.no (fun _ => Below.refl _ _) 1 false 73 rfl rfl (fun x w1 hC hd => .inl (by have d : x 1 = .bool true := hd.get 1 rfl; show some (x 1) = _; rw [d]; rfl)) (fun _ _ => rfl))) ?_
                      refine .cons (StepOp.late (.no (fun _ => Below.refl _ _) 1 false 73 rfl rfl (fun x w1 hC hd => .inl (by have d : x 1 = .bool true := hd.get 1 rfl; show some (x 1) = _; rw [d]; rfl)) (fun _ _ => rfl))) ?_
                      refine .cons (StepOp.late (.no (fun _ => Below.refl _ _) 1 false 73 rfl rfl (fun x w1 hC hd => .inl (by have d : x 1 = .bool true := hd.get 1 rfl; show some (x 1) = _; rw [d]; rfl)) (fun _ _ => rfl))) ?_
                      refine .cons (StepOp.late (.no (fun _ => Below.refl _ _) 1 false 73 rfl rfl (fun x w1 hC hd => .inl (by have d : x 1 = .bool true := hd.get 1 rfl; show some (x 1) = _; rw [d]; rfl)) (fun _ _ => rfl))) ?_
                      refine .cons (StepOp.late (.no (fun _ => Below.refl _ _) 1 false 73 rfl rfl (fun x w1 hC hd => .inl (by have d : x 1 = .bool true := hd.get 1 rfl; show some (x 1) = _; rw [d]; rfl)) (fun _ _ => rfl))) ?_
                      refine .cons (StepOp.late (.no (fun _ => Below.refl _ _) 1 false 73 rfl rfl (fun x w1 hC hd => .inl (by have d : x 1 = .bool true := hd.get 1 rfl; show some (x 1) = _; rw [d]; rfl)) (fun _ _ => rfl))) ?_
                      refine .cons (StepOp.late (.plain rfl fun x w1 hC hd K hK => ?_)) ?_
                      · have d1 : x 1 = (.bool true : Value) := hd.get 1 rfl
                        dsimp only at hK ⊢
                        rw [d1] at hK ⊢
                        exact wp_value (v := (.bool true : Value)) (by rfl) (hK _ _ (Below.refl _ _) hC rfl)
                      refine .cons (StepOp.late (.plain rfl fun x w1 hC hd K hK => ?_)) ?_
                      · have d8 : x 8 = (.bool true : Value) := hd.get 8 rfl
                        dsimp only at hK ⊢
                        rw [d8] at hK ⊢
                        exact wp_value (v := (.bool true : Value)) (by rfl) (hK _ _ (Below.refl _ _) hC rfl)
                      exact .nil
                    case xfin =>
                      intro z w9 hC hΦ
                      have d : z 9 = .bool true := hΦ 9 (by decide)
                      dsimp only
                      rw [d]
                      clear hΦ d
                      have HF := Lib.hid (And.intro (HC.out.1.trans (hC.mono HC.out.1.size)) ((hC.block _ (Array.getElem?_eq_some_iff.1 HC.out.2).1).trans HC.out.2))
                      clear hC
                      go_wp2
                      go_roundg g'
                      case measure => omega
                      case rel => exact ⟨j + 1, by have := HJ2.out; omega, by go_num, by rw [HAny.out]; rfl, HF.out⟩
                  | false =>
                    refine wp_region_rel2 rfl (fun W' => Below wr.heap.size wr W') (fun W1 W2 => Below W1.heap.size W1 W2)
                      (fun i => ([fun v _ => v = (.bool false : Value), fun v _ => v = (.bool false : Value), fun v _ => v = (.slice (some ⟨b, off, none⟩) k c : Value), fun v _ => v = (.int .i64 (y : Int) : Value), fun v _ => v = (.pointer (some ⟨b, off + y * 16, none⟩) : Value), fun v _ => v = (.agg (ivs U) : Value), fun v _ => v = (.agg (ivs V) : Value), fun v _ => v = (.bool cU : Value), fun v _ => v = (.bool cU : Value), fun v _ => v = (.bool cU : Value)][i]?).getD (fun _ _ => True))
                      (fun x => { tmps := #[.slice (some ⟨b, off, none⟩) k c, undef, u2, .slice A3 k c3, undef, u5, .slice (some ⟨x5, o5, none⟩) nn c5, .slice A6 nn c6, u8, undef, .pointer (some ⟨b10, 0, none⟩), x 9, undef, .int .i64 (y : Nat), .bool true, .bool false, .bool false, .slice (some ⟨b, off, none⟩) k c, .int .i64 (k : Nat), .bool false, .bool false, undef, .slice (some ⟨b, off, none⟩) k c, .int .i64 (k : Nat), .int .i64 (k : Nat), .bool false, u26, u27, u28, u29, u30, u31, u32, u33, u34, u35, .slice A3 k c3, .slice (some ⟨x5, o5, none⟩) nn c5, .slice (some ⟨b, off, none⟩) k c, .slice A6 nn c6, .slice (some ⟨x5, o5, none⟩) nn c5, .int .i64 (nn : Nat), .slice A6 nn c6, .int .i64 (nn : Nat), .bool false, .slice (some ⟨x5, o5, none⟩) nn c5, .int .i64 (nn : Nat), .int .i64 (nn : Nat), .bool false, u49, u50, u51, u52, u53, u54, u55, u56, u57, u58, u59, .slice (some ⟨b, off, none⟩) k c, .int .i64 (k : Nat), .int .i64 (i : Nat), .bool true, .pointer (some ⟨b, off + i * 16, none⟩), .agg (ivl V).toArray, .slice (some ⟨x5, o5, none⟩) nn c5, .int .i64 (nn : Nat), .int .i64 (j : Nat), .bool true, .pointer (some ⟨x5, o5 + j, none⟩), .int .i64 (y : Nat), x 0, x 1, x 2, x 3, x 4, x 5, x 6, x 7, x 8, u81, u82, u83, u84], defers := [] }) (fun i => ([(u72 : Value), (u73 : Value), (u74 : Value), (u75 : Value), (u76 : Value), (u77 : Value), (u78 : Value), (u79 : Value), (u80 : Value), (.bool false : Value)][i]?).getD undef) (fun x => by simp only [fillL, Act.put, List.setIfInBounds_toArray, List.set_cons_zero, List.set_cons_succ, Nat.reduceAdd]) rfl (by kernel_rfl) (by kernel_rfl) ?xst ((Below.refl _ _).drew) ?xop ?xfin
                    case xst =>
                      intro i v w1 w2 h hb
                      rcases i with _ | _ | _ | _ | _ | _ | _ | _ | _ | _ | i
                      · exact h
                      · exact h
                      · exact h
                      · exact h
                      · exact h
                      · exact h
                      · exact h
                      · exact h
                      · exact h
                      · exact h
                      · exact h
                    case xop =>
                      refine .cons (.plain rfl fun x w1 hC hd hl K hK => ?_) ?_
                      · have l9 : x 9 = (.bool false : Value) := hl 9 _ rfl rfl
                        dsimp only at hK ⊢
                        rw [l9] at hK ⊢
                        exact wp_value (v := (.bool false : Value)) (by rfl) (hK _ _ (Below.refl _ _) hC rfl)
                      refine .cons (StepOp.late (.plain rfl fun x w1 hC hd K hK => ?_)) ?_
                      · have d0 : x 0 = (.bool false : Value) := hd.get 0 rfl
                        dsimp only at hK ⊢
                        rw [d0] at hK ⊢
                        exact wp_value (v := (.bool false : Value)) (by rfl) (hK _ _ (Below.refl _ _) hC rfl)
                      refine .cons (StepOp.late (.yes 1 false 73 rfl rfl (fun x w1 hC hd => by have d : x 1 = .bool false := hd.get 1 rfl; show some (x 1) = _; rw [d]) fun x w1 hC hd K hK => ?_)) ?_
                      · exact wp_value (v := (.slice (some ⟨b, off, none⟩) k c : Value)) (by rfl) (hK _ _ (Below.refl _ _) hC rfl)
                      refine .cons (StepOp.late (.yes 1 false 73 rfl rfl (fun x w1 hC hd => by have d : x 1 = .bool false := hd.get 1 rfl; show some (x 1) = _; rw [d]) fun x w1 hC hd K hK => ?_)) ?_
                      · exact wp_value (v := (.int .i64 (y : Int) : Value)) (by rfl) (hK _ _ (Below.refl _ _) hC rfl)
                      refine .cons (StepOp.late (.yes 1 false 73 rfl rfl (fun x w1 hC hd => by have d : x 1 = .bool false := hd.get 1 rfl; show some (x 1) = _; rw [d]) fun x w1 hC hd K hK => ?_)) ?_
                      · have d2 : x 2 = (.slice (some ⟨b, off, none⟩) k c : Value) := hd.get 2 rfl
                        have d3 : x 3 = (.int .i64 (y : Int) : Value) := hd.get 3 rfl
                        dsimp only at hK ⊢
                        rw [d2, d3] at hK ⊢
                        exact wp_value (v := (.pointer (some ⟨b, off + y * 16, none⟩) : Value)) (by go_simp) (hK _ _ (Below.refl _ _) hC rfl)
                      refine .cons (StepOp.late (.yes 1 false 73 rfl rfl (fun x w1 hC hd => by have d : x 1 = .bool false := hd.get 1 rfl; show some (x 1) = _; rw [d]) fun x w1 hC hd K hK => ?_)) ?_
                      · have d4 : x 4 = (.pointer (some ⟨b, off + y * 16, none⟩) : Value) := hd.get 4 rfl
                        dsimp only at hK ⊢
                        rw [d4] at hK ⊢
                        exact wp_value (v := (.agg (ivs U) : Value)) (exec_load_mid 22 (.tmp 76) rfl b (off + y * 16) rfl (ivl U) _ (HRG.out w1 hC) Try.underlying22 rfl (by rw [ivl_length, HU.out.1]; exact Try.infoArr)) (hK _ _ (Below.refl _ _) hC rfl)
                      refine .cons (StepOp.late (.yes 1 false 73 rfl rfl (fun x w1 hC hd => by have d : x 1 = .bool false := hd.get 1 rfl; show some (x 1) = _; rw [d]) fun x w1 hC hd K hK => ?_)) ?_
                      · exact wp_load_row 22 (.tmp 10) rfl b10 rfl 22 (ivs V) (0, 0) _ ((hC.block _ (Array.getElem?_eq_some_iff.1 HC.out.2).1).trans HC.out.2) Try.underlying22 rfl (hvi) (hK _ _ (Below.refl _ _) hC rfl)
                      refine .cons (StepOp.late (.yes 1 false 73 rfl rfl (fun x w1 hC hd => by have d : x 1 = .bool false := hd.get 1 rfl; show some (x 1) = _; rw [d]) fun x w1 hC hd K hK => ?_)) ?_
                      · have d5 : x 5 = (.agg (ivs U) : Value) := hd.get 5 rfl
                        have d6 : x 6 = (.agg (ivs V) : Value) := hd.get 6 rfl
                        dsimp only at hK ⊢
                        rw [d5, d6] at hK ⊢
                        exact wp_called (f := 16) (args := #[.agg (ivs U), .agg (ivs V)]) (exec_call 16 _ rfl _ rfl rfl #[.agg (ivs U), .agg (ivs V)] rfl _ Try.func16 (by kernel_rfl) (by kernel_rfl) w1) (rCovers_R U V HU.out.1 hvV cU HCU.out w1) (fun e w' ⟨he, hb⟩ => ⟨_, he, hK _ _ hb (hC.trans (hb.mono hC.size)) rfl⟩)
                      refine .cons (StepOp.late (.plain rfl fun x w1 hC hd K hK => ?_)) ?_
                      · have d1 : x 1 = (.bool false : Value) := hd.get 1 rfl
                        have d7 : x 7 = (.bool cU : Value) := hd.get 7 rfl
                        dsimp only at hK ⊢
                        rw [d1, d7] at hK ⊢
                        exact wp_value (v := (.bool cU : Value)) (by rfl) (hK _ _ (Below.refl _ _) hC rfl)
                      refine .cons (StepOp.late (.plain rfl fun x w1 hC hd K hK => ?_)) ?_
                      · have d8 : x 8 = (.bool cU : Value) := hd.get 8 rfl
                        dsimp only at hK ⊢
                        rw [d8] at hK ⊢
                        exact wp_value (v := (.bool cU : Value)) (by rfl) (hK _ _ (Below.refl _ _) hC rfl)
                      exact .nil
                    case xfin =>
                      intro z w9 hC hΦ
                      have d : z 9 = .bool cU := hΦ 9 (by decide)
                      dsimp only
                      rw [d]
                      clear hΦ d
                      have HF := Lib.hid (And.intro (HC.out.1.trans (hC.mono HC.out.1.size)) ((hC.block _ (Array.getElem?_eq_some_iff.1 HC.out.2).1).trans HC.out.2))
                      clear hC
                      go_wp2
                      go_roundg g'
                      case measure => omega
                      case rel => exact ⟨j + 1, by have := HJ2.out; omega, by go_num, by rw [HAny.out]; rfl, HF.out⟩

theorem VectorLasts_walk (A : Option Addr) (c : Nat) (Vs : List (List Int)) (w : World) (hr : RowV w A (Vs.flatMap ivl)) (hok : ∀ V ∈ Vs, V.length = 16 ∧ ∀ i : Nat, -9223372036854775808 ≤ V[i]?.getD 0 ∧ V[i]?.getD 0 ≤ 9223372036854775807) (hm : Vs.length ≤ 9223372036854775807) :
    Calls Try.prog 5 #[.slice A Vs.length c] w fun e W' => e = .returned (.bool true) ∧ Below w.heap.size w W' := by
  rcases Nat.lt_or_ge 20 Vs.length with h | h
  · exact lasts_long A c _ h hm w
  · exact lasts_short A c Vs w hr hok h

end Go.Proofs.Ytilnkfcggfaheaa
