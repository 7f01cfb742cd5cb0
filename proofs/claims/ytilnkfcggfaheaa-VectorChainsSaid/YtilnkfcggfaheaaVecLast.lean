/-
  The contract of vector.Last.
-/
import Derived.Test.YtilnkfcggfaheaaVecAwake
import Derived.Deep.LoopGhost
import Derived.WalkMore
namespace Go.Proofs.Ytilnkfcggfaheaa
open Go.RowKit Go.Shelf

theorem ownsRow_under {B : Nat} {e : TypeId} {k : Nat} {v : Value} {n : Nat} {xs : List Value} {w w' : World} (h : w.ownsRow B e k v n xs) (hb : Below w.heap.size w w') : w'.ownsRow B e k v n xs :=
  h.kept (row := none) ⟨hb.os, hb.tape, hb.output, hb.size, fun j hj _ => hb.block j hj⟩ (by cases hv : v.ownBlock <;> simp)

/-- k stands behind i -/
def beat (Vs : List (List Int)) (i k : Nat) : Bool :=
  decide (cmpv (Vs[i]?.getD []) (Vs[k]?.getD []) < 0) || (decide (cmpv (Vs[i]?.getD []) (Vs[k]?.getD []) = 0) && decide (k < i))
def lastOk (Vs : List (List Int)) (i : Nat) : Bool := (List.range Vs.length).all fun k => !beat Vs i k
def lastsTo (Vs : List (List Int)) (n : Nat) : List Nat := (List.range n).filter (lastOk Vs)
theorem lastsTo_no {Vs : List (List Int)} {i k : Nat} (hk : k < Vs.length) (h : beat Vs i k = true) : lastsTo Vs (i + 1) = lastsTo Vs i := by
  unfold lastsTo
  rw [List.range_succ, List.filter_append]
  have : lastOk Vs i = false := by
    cases hc : lastOk Vs i
    · rfl
    · unfold lastOk at hc
      rw [List.all_eq_true] at hc
      have := hc k (List.mem_range.2 hk)
      rw [h] at this
      simp at this
  simp [this]
theorem lastsTo_yes {Vs : List (List Int)} {i : Nat} (h : ∀ k, k < Vs.length → beat Vs i k = false) : lastsTo Vs (i + 1) = lastsTo Vs i ++ [i] := by
  unfold lastsTo
  rw [List.range_succ, List.filter_append]
  have : lastOk Vs i = true := by
    unfold lastOk
    rw [List.all_eq_true]
    intro k hk
    rw [h k (List.mem_range.1 hk)]
    rfl
  simp [this]
theorem lastsTo_length (Vs : List (List Int)) (n : Nat) : (lastsTo Vs n).length ≤ n := by
  have := List.length_filter_le (lastOk Vs) (List.range n)
  simpa [lastsTo] using this
def ints (l : List Nat) : List Value := l.map fun i => Value.int .i64 (i : Nat)
theorem ints_length (l : List Nat) : (ints l).length = l.length := by simp [ints]
theorem ints_snoc (l : List Nat) (i : Nat) : ints (l ++ [i]) = ints l ++ [.int .i64 (i : Nat)] := by simp [ints]

set_option maxRecDepth 100000 in
set_option maxHeartbeats 4000000 in
theorem Last_any (A : Option Addr) (c : Nat) (Vs : List (List Int)) (w : World) (hr : RowV w A (Vs.flatMap ivl)) (hok : ∀ V ∈ Vs, VecOk V) (hm : Vs.length ≤ 1048576) :
    Calls Try.prog 17 #[.slice A Vs.length c] w fun e W' => ∃ A' c', e = .returned (.slice A' (lastsTo Vs Vs.length).length c') ∧ W'.ownsRow w.heap.size 3 1 (.slice A' (lastsTo Vs Vs.length).length c') (lastsTo Vs Vs.length).length (ints (lastsTo Vs Vs.length)) ∧ Below w.heap.size w W' := by
  obtain ⟨len, hlen⟩ : ∃ n, n = Vs.length := ⟨_, rfl⟩
  rw [← hlen] at hm ⊢
  have HL := Lib.hid hlen
  have HOK := Lib.hid hok
  clear hlen hok
  have hinfo : (Try.prog.info? 3).map (fun i => (i.zero, i.size, i.bytes)) = some (some (.int .i64 0), 1, 8) := by kernel_rfl
  obtain ⟨i0, hi, hz0, hz1, hz2⟩ := info_parts hinfo
  have HI := Lib.hid (And.intro hi (And.intro hz0 (And.intro hz1 hz2)))
  clear hinfo hi hz0 hz1 hz2
  have hz := run_zero_vec
  go_enter Try.func17, Try.ntmps17
  go_wp2
  go_step3
  go_wp2
  go_step3
  go_wp2
  go_loopg [3, 11] len (fun g s3 s11 wx => ∃ (k : Nat) (A3 : Option Addr) (c3 : Nat), k + g = len ∧ s11 = .int .i64 k ∧ s3 = .slice A3 (lastsTo Vs k).length c3 ∧ wx.ownsRow w.heap.size 3 1 (.slice A3 (lastsTo Vs k).length c3) (lastsTo Vs k).length (ints (lastsTo Vs k)) ∧ Below w.heap.size w wx)
  case atStart => exact ⟨0, none, 0, by omega, rfl, rfl, World.ownsRow_nil _ _ _ _, Below.refl _ _⟩
  case round =>
    obtain ⟨k, A3, c3, hkg, rfl, rfl, hown, hbel⟩ := hrel
    cases gk with
    | zero =>
      have hkz : ¬ ((k : Int) < (len : Int)) := by omega
      obtain rfl : k = len := by omega
      have HF := Lib.hid (And.intro hown hbel)
      clear hown hbel
      obtain ⟨nn, hnn⟩ : ∃ n, (lastsTo Vs k).length = n := ⟨_, rfl⟩
      have HN := Lib.hid hnn
      rw [hnn]
      clear hnn
      go_wp2
      try rw [Exit.noGoto_ret]
      go_ret
      exact ⟨A3, c3, by rw [HN.out]; rfl, HF.out.1, HF.out.2⟩
    | succ g =>
      have hlt : (k : Int) < (len : Int) := by omega
      have hkl : k < len := by omega
      obtain ⟨b, off, e1, hrg⟩ := vec_range (hr.keep hbel) (fun V hV => (HOK.out V hV).len) k (by rw [← HL.out]; exact hkl)
      subst e1
      obtain ⟨V, hVe⟩ : ∃ V, Vs[k]?.getD [] = V := ⟨_, rfl⟩
      rw [hVe] at hrg
      have hV : VecOk V := by
        rw [← hVe]
        have h' : k < Vs.length := by rw [← HL.out]; exact hkl
        rw [List.getElem?_eq_getElem h']; exact HOK.out _ (List.getElem_mem h')
      have HVe := Lib.hid hVe
      have HV := Lib.hid hV
      have hvzs : vz.size = (ivs V).size := by rw [ivs_size, hV.len]; rfl
      have hvi := vec_info hV.len
      have hvl : (Try.prog.info? 25).map (·.size) = some (ivl V).length := by rw [ivl_length, hV.len]; exact Try.infoVec
      have hn1 := heap_alloc_new wr (Obj.cells vz 25)
      have hx5 := heap_alloc_new wr (Obj.cells (ivs V) 25)
      have hown1 := hown.alloc (.cells (ivs V) 25)
      have hbel1 := hbel.alloc hbel.size (.cells (ivs V) 25)
      obtain ⟨nn, hnn⟩ : ∃ n, (lastsTo Vs k).length = n := ⟨_, rfl⟩
      have HN := Lib.hid hnn
      have hr0 := hr
      have HR := Lib.hid hr0
      rw [hnn] at hown1 ⊢
      have HO := Lib.hid (And.intro hown1 (And.intro hbel1 hx5))
      clear hnn hown hbel hV hVe hown1 hbel1 hr hr0 hx5
      go_wp2_with (first
        | (refine wpList_load_mid rfl 25 (.tmp 14) rfl b (off + k * 16) rfl (ivl V) _ hrg Try.underlying25 rfl hvl ?_)
        | (refine wpList_store_row rfl 25 (.tmp 5) (.tmp 15) rfl wr.heap.size 25 vz (ivs V) rfl rfl hn1 hvi hvzs (ivs_one V) ?_; rw [setRow_new]))
      generalize hb5 : wr.heap.size = b5 at *
      generalize hW : wr.alloc (.cells (ivs V) 25) = W at *
      clear hrg hn1 hW hvzs
      go_loopg [18] len (fun g' s18 wx => ∃ (m : Nat), m + g' = len ∧ s18 = .int .i64 m ∧ (∀ j, j < m → beat Vs k j = false) ∧ wx.ownsRow w.heap.size 3 1 (.slice A3 nn c3) nn (ints (lastsTo Vs k)) ∧ Below w.heap.size w wx ∧ wx.heap[b5]? = some (.cells (ivs V) 25 (0, 0)))
      case atStart => exact ⟨0, by omega, rfl, fun j hj => by omega, HO.out.1, HO.out.2.1, HO.out.2.2⟩
      case round =>
        clear HO
        obtain ⟨m, hmg, rfl, hall, hown, hbel, hx5⟩ := hrel
        cases gk with
        | zero =>
          have hkz : ¬ ((m : Int) < (len : Int)) := by omega
          obtain rfl : m = len := by omega
          have HY := Lib.hid (lastsTo_yes (Vs := Vs) (i := k) (fun j hj => hall j (by rw [HL.out]; exact hj)))
          have HNl := Lib.hid (lastsTo_length Vs k)
          have hown1 := hown.alloc (.cells #[.int .i64 (k : Nat)] 3)
          have hbel1 := hbel.alloc hbel.size (.cells #[.int .i64 (k : Nat)] 3)
          have hrow : RowV (wr.alloc (.cells #[.int .i64 (k : Nat)] 3)) (some ⟨wr.heap.size, 0, none⟩) [.int .i64 (k : Nat)] := row_new wr [.int .i64 (k : Nat)] 3
          have HO := Lib.hid (And.intro hown1 (And.intro hbel1 hrow))
          have hnl : nn ≤ 1048576 := by rw [← HN.out]; have := HNl.out; omega
          clear hall hown hbel hx5 hown1 hbel1 hrow
          go_wp2_with (first
            | (refine wpList_append_rowv _ rfl (.tmp 38) (.tmp 40) 38 rfl w.heap.size 3 i0 (.int .i64 0) 1 8 Try.underlying38 HI.out.1 HI.out.2.1 HI.out.2.2.1 HI.out.2.2.2 rfl (by omega) (.slice A3 nn c3) nn (ints (lastsTo Vs k)) rfl HO.out.1 (some ⟨wr.heap.size, 0, none⟩) 1 1 [.int .i64 (k : Nat)] rfl HO.out.2.2 rfl (by simp [Value.oneCell']) (by unfold maxLen; omega) (by omega) HO.out.2.1.size ?_; intro A' c' w' hown' hgr))
          have hlen1 : (lastsTo Vs (k + 1)).length = nn + 1 := by rw [HY.out, List.length_append, HN.out]; rfl
          have HZ := Lib.hid (And.intro hlen1 (And.intro hown' hgr))
          clear hlen1 hown' hgr
          go_roundg g
          case measure => omega
          case rel =>
            refine ⟨k + 1, A', c', by omega, by go_num, by rw [HZ.out.1], ?_, ?_⟩
            · rw [HZ.out.1, HY.out, ints_snoc]; exact HZ.out.2.1
            · exact HO.out.2.1.grown HZ.out.2.2 HO.out.2.1.size (fun j hj => ((HO.out.1.lt j hj).1))
        | succ g' =>
          have hlt : (m : Int) < (len : Int) := by omega
          have hml : m < len := by omega
          obtain ⟨_, _, e1, hrg⟩ := vec_range (HR.out.keep hbel) (fun V hV => (HOK.out V hV).len) m (by rw [← HL.out]; exact hml)
          cases e1
          obtain ⟨U, hUe⟩ : ∃ U, Vs[m]?.getD [] = U := ⟨_, rfl⟩
          rw [hUe] at hrg
          have hU : VecOk U := by
            rw [← hUe]
            have h' : m < Vs.length := by rw [← HL.out]; exact hml
            rw [List.getElem?_eq_getElem h']; exact HOK.out _ (List.getElem_mem h')
          have huzs : vz.size = (ivs U).size := by rw [ivs_size, hU.len]; rfl
          have hui := vec_info hU.len
          have hul : (Try.prog.info? 25).map (·.size) = some (ivl U).length := by rw [ivl_length, hU.len]; exact Try.infoVec
          have hn1 := heap_alloc_new wr (Obj.cells vz 25)
          have hx7 := heap_alloc_new wr (Obj.cells (ivs U) 25)
          have hx5' := (((Below.refl _ wr).alloc (Nat.le_refl _) (.cells (ivs U) 25)).block _ (Array.getElem?_eq_some_iff.1 hx5).1).trans hx5
          have hown1 := hown.alloc (.cells (ivs U) 25)
          have hbel1 := hbel.alloc hbel.size (.cells (ivs U) 25)
          have HU := Lib.hid hU
          have HB := Lib.hid (show beat Vs k m = (decide (cmpv V U < 0) || (decide (cmpv V U = 0) && decide (m < k))) by unfold beat; rw [HVe.out, hUe])
          have HO := Lib.hid (And.intro hown1 (And.intro hbel1 hall))
          clear hall hown hbel hx5 hown1 hbel1 hU hUe
          generalize hb7 : wr.heap.size = b7 at *
          generalize hW2 : wr.alloc (.cells (ivs U) 25) = W2 at *
          obtain ⟨R, hRe⟩ : ∃ R, cmpv V U = R := ⟨_, rfl⟩
          rw [hRe] at HB
          have HRe := Lib.hid hRe
          clear hRe
          go_wp2_with (first
            | (refine wpList_load_mid rfl 25 (.tmp 21) rfl b (off + m * 16) rfl (ivl U) _ hrg Try.underlying25 rfl hul ?_)
            | (refine wpList_store_row rfl 25 (.tmp 7) (.tmp 22) rfl b7 25 vz (ivs U) rfl rfl hn1 hui huzs (ivs_one U) ?_; rw [← hb7, setRow_new, hb7, hW2])
            | (refine wpList_load_row rfl 25 (.tmp 5) rfl b5 rfl 25 (ivs V) (0, 0) _ hx5' Try.underlying25 rfl hvi ?_)
            | (refine wpList_load_row rfl 25 (.tmp 7) rfl b7 rfl 25 (ivs U) (0, 0) _ hx7 Try.underlying25 rfl hui ?_))
          refine (Compare_R V U HV.out HU.out R HRe.out _).mono ?_
          rintro e w3 ⟨rfl, h3⟩
          have hx8 := (h3.block _ (Array.getElem?_eq_some_iff.1 hx5').1).trans hx5'
          have HP := Lib.hid (And.intro (ownsRow_under HO.out.1 h3) (And.intro (HO.out.2.1.trans (h3.mono HO.out.2.1.size)) hx8))
          clear hrg hn1 hx7 hx5' hb7 hW2 huzs h3 hx8
          by_cases h0 : R < 0
          · have HB1 := Lib.hid (lastsTo_no (Vs := Vs) (i := k) (k := m) (by rw [← HL.out]; exact hml) (by rw [HB.out]; simp [h0]))
            have t1 : decide (R < 0) = true := by simp [h0]
            go_wp2
            go_roundg g
            case measure => omega
            case rel => exact ⟨k + 1, A3, c3, by omega, by go_num, by rw [HB1.out, HN.out], by rw [HB1.out, HN.out]; exact HP.out.1, HP.out.2.1⟩
          · have t1 : decide (R < 0) = false := by simp; omega
            by_cases h1 : R = 0
            · subst h1
              by_cases h2 : m < k
              · have HB1 := Lib.hid (lastsTo_no (Vs := Vs) (i := k) (k := m) (by rw [← HL.out]; exact hml) (by rw [HB.out]; simp [h2]))
                have t2 : decide ((m : Int) < (k : Int)) = true := by simp; omega
                go_wp2
                go_roundg g
                case measure => omega
                case rel => exact ⟨k + 1, A3, c3, by omega, by go_num, by rw [HB1.out, HN.out], by rw [HB1.out, HN.out]; exact HP.out.1, HP.out.2.1⟩
              · have HB1 := Lib.hid (show beat Vs k m = false by rw [HB.out]; simp; omega)
                have t2 : decide ((m : Int) < (k : Int)) = false := by simp; omega
                go_wp2
                go_roundg g'
                case measure => omega
                case rel =>
                  refine ⟨m + 1, by omega, by go_num, fun j hj => ?_, HP.out⟩
                  rcases Nat.lt_or_ge j m with h | h
                  · exact HO.out.2.2 j h
                  · obtain rfl : j = m := by omega
                    exact HB1.out
            · have HB1 := Lib.hid (show beat Vs k m = false by rw [HB.out]; simp [h1]; omega)
              have t2 : (R == 0) = false := by simp [h1]
              go_wp2
              go_roundg g'
              case measure => omega
              case rel =>
                refine ⟨m + 1, by omega, by go_num, fun j hj => ?_, HP.out⟩
                rcases Nat.lt_or_ge j m with h | h
                · exact HO.out.2.2 j h
                · obtain rfl : j = m := by omega
                  exact HB1.out

end Go.Proofs.Ytilnkfcggfaheaa
