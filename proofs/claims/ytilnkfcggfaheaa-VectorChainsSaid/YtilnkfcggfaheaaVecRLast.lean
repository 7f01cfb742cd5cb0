/-
  The contract of the reference's Last.
-/
import Derived.Test.YtilnkfcggfaheaaVecLast
namespace Go.Proofs.Ytilnkfcggfaheaa
open Go.RowKit Go.Shelf

def okTo (Vs : List (List Int)) (i m : Nat) : Bool := (List.range m).all fun k => !beat Vs i k
theorem okTo_succ (Vs : List (List Int)) (i m : Nat) : okTo Vs i (m + 1) = (okTo Vs i m && !beat Vs i m) := by
  unfold okTo
  rw [List.range_succ, List.all_append]
  simp
theorem lastsTo_succ (Vs : List (List Int)) (i : Nat) : lastsTo Vs (i + 1) = if okTo Vs i Vs.length = true then lastsTo Vs i ++ [i] else lastsTo Vs i := by
  unfold lastsTo
  rw [List.range_succ, List.filter_append]
  show _ ++ List.filter (lastOk Vs) [i] = _
  have : lastOk Vs i = okTo Vs i Vs.length := rfl
  by_cases h : okTo Vs i Vs.length = true
  · rw [if_pos h]; simp [this, h]
  · rw [if_neg h]; simp [this, h]
theorem cmpv_neg (U V : List Int) : decide (cmpv U V < 0) = (cmpv U V == -1) := by
  unfold cmpv
  split
  · rfl
  · split
    · rfl
    · split <;> rfl

theorem exec_load_mid {P : Program} {ρ : Operand → Value} {o : Oper} {w : World} (ty : TypeId) (x : Operand) (ho : o.op = .load ty x)
    (b of : Nat) (hx : ρ x = .pointer (some ⟨b, of, none⟩)) (cs : List Value) (d : TypeDesc) (hc : w.rangeAt b of cs)
    (hu : P.underlying ty = some d) (hd : d.isRow = true) (hi : (P.info? ty).map (·.size) = some cs.length) : (execOp ρ o).run P w = .ok (.value (.agg cs.toArray)) w := by
  unfold execOp
  simp only [ho, hx, Instr.loadAt, Instr.sureAddr, Sem.run_bind, Sem.run_pure, Result.andThen_ok, run_loadVar_mid w b of ty cs d hc hu hd hi]

theorem rCompare_L (U V : List Int) (hU : U.length = 16) (hV : V.length = 16) (R : Int) (hR : cmpv U V = R) (w : World) :
    Calls Try.prog 14 #[.agg (ivs U), .agg (ivs V)] w fun e w' => e = .returned (.int .i64 R) ∧ Below w.heap.size w w' := by
  rw [← hR]; exact rCompare_any U V hU hV w

set_option maxRecDepth 100000 in
set_option maxHeartbeats 4000000 in
theorem rLast_any (A : Option Addr) (c : Nat) (Vs : List (List Int)) (w : World) (hr : RowV w A (Vs.flatMap ivl)) (hok : ∀ V ∈ Vs, V.length = 16) (hm : Vs.length ≤ 1048576) :
    Calls Try.prog 18 #[.slice A Vs.length c] w fun e W' => ∃ A' c', e = .returned (.slice A' (lastsTo Vs Vs.length).length c') ∧ W'.ownsRow w.heap.size 3 1 (.slice A' (lastsTo Vs Vs.length).length c') (lastsTo Vs Vs.length).length (ints (lastsTo Vs Vs.length)) ∧ Below w.heap.size w W' := by
  obtain ⟨len, hlen⟩ : ∃ n, n = Vs.length := ⟨_, rfl⟩
  rw [← hlen] at hm ⊢
  have HL := Lib.hid hlen
  have HOK := Lib.hid hok
  clear hlen hok
  have hinfo : (Try.prog.info? 3).map (fun i => (i.zero, i.size, i.bytes)) = some (some (.int .i64 0), 1, 8) := by kernel_rfl
  obtain ⟨i0, hi, hz0, hz1, hz2⟩ := info_parts hinfo
  have HI := Lib.hid (And.intro hi (And.intro hz0 (And.intro hz1 hz2)))
  clear hinfo hi hz0 hz1 hz2
  go_enter Try.func18, Try.ntmps18
  go_wp2
  go_loopg [3, 10] len (fun g s3 s11 wx => ∃ (k : Nat) (A3 : Option Addr) (c3 : Nat), k + g = len ∧ s11 = .int .i64 k ∧ s3 = .slice A3 (lastsTo Vs k).length c3 ∧ wx.ownsRow w.heap.size 3 1 (.slice A3 (lastsTo Vs k).length c3) (lastsTo Vs k).length (ints (lastsTo Vs k)) ∧ Below w.heap.size w wx)
  case atStart => exact ⟨0, none, 0, by omega, rfl, rfl, World.ownsRow_nil _ _ _ _, Below.refl _ _⟩
  case round =>
    obtain ⟨k, A3, c3, hkg, rfl, rfl, hown, hbel⟩ := hrel
    cases gk with
    | zero =>
      have hkz : ¬ ((k : Int) < (len : Int)) := by omega
      obtain rfl : k = len := by omega
      have HF := Lib.hid (And.intro hown hbel)
      clear hown hbel
      obtain ⟨nn, hnn⟩ : ∃ n, (lastsTo Vs k).length = n := ⟨_, rfl⟩
      have HN := Lib.hid hnn
      rw [hnn]
      clear hnn
      go_wp2
      go_ret
      exact ⟨A3, c3, by rw [HN.out]; rfl, HF.out.1, HF.out.2⟩
    | succ g =>
      have hlt : (k : Int) < (len : Int) := by omega
      have hkl : k < len := by omega
      obtain ⟨b, off, e1, -⟩ := vec_range (hr.keep hbel) HOK.out k (by rw [← HL.out]; exact hkl)
      subst e1
      obtain ⟨nn, hnn⟩ : ∃ n, (lastsTo Vs k).length = n := ⟨_, rfl⟩
      have HN := Lib.hid hnn
      have HR := Lib.hid hr
      rw [hnn] at hown ⊢
      have HO := Lib.hid (And.intro hown hbel)
      clear hnn hown hbel hr
      go_wp2
      go_loopg [5, 15] len (fun g' s5 s18 wx => ∃ (m : Nat), m + g' = len ∧ s18 = .int .i64 m ∧ s5 = .bool (okTo Vs k m) ∧ wx.ownsRow w.heap.size 3 1 (.slice A3 nn c3) nn (ints (lastsTo Vs k)) ∧ Below w.heap.size w wx)
      case atStart => exact ⟨0, by omega, rfl, rfl, HO.out.1, HO.out.2⟩
      case round =>
        clear HO
        obtain ⟨m, hmg, rfl, rfl, hown, hbel⟩ := hrel
        cases gk with
        | zero =>
          have hkz : ¬ ((m : Int) < (len : Int)) := by omega
          obtain rfl : m = len := by omega
          have HY := Lib.hid (lastsTo_succ Vs k)
          have HNl := Lib.hid (lastsTo_length Vs k)
          have hown1 := hown.alloc (.cells #[.int .i64 (k : Nat)] 3)
          have hbel1 := hbel.alloc hbel.size (.cells #[.int .i64 (k : Nat)] 3)
          have hrow : RowV (wr.alloc (.cells #[.int .i64 (k : Nat)] 3)) (some ⟨wr.heap.size, 0, none⟩) [.int .i64 (k : Nat)] := row_new wr [.int .i64 (k : Nat)] 3
          have HO := Lib.hid (And.intro hown1 (And.intro hbel1 (And.intro hrow (And.intro hown hbel))))
          have hnl : nn ≤ 1048576 := by rw [← HN.out]; have := HNl.out; omega
          clear hown hbel hown1 hbel1 hrow
          cases hk : okTo Vs k m with
          | false =>
            have HK := Lib.hid hk
            clear hk
            go_wp2
            go_roundg g
            case measure => omega
            case rel =>
              have h1 : lastsTo Vs (k + 1) = lastsTo Vs k := by rw [HY.out, ← HL.out, HK.out]; rfl
              exact ⟨k + 1, A3, c3, by omega, by go_num, by rw [h1, HN.out], by rw [h1, HN.out]; exact HO.out.2.2.2.1, HO.out.2.2.2.2⟩
          | true =>
            have HK := Lib.hid hk
            clear hk
            go_wp2_with (first
              | (refine wpList_append_rowv _ rfl (.tmp 40) (.tmp 42) 38 rfl w.heap.size 3 i0 (.int .i64 0) 1 8 Try.underlying38 HI.out.1 HI.out.2.1 HI.out.2.2.1 HI.out.2.2.2 rfl (by omega) (.slice A3 nn c3) nn (ints (lastsTo Vs k)) rfl HO.out.1 (some ⟨wr.heap.size, 0, none⟩) 1 1 [.int .i64 (k : Nat)] rfl HO.out.2.2.1 rfl (by simp [Value.oneCell']) (by unfold maxLen; omega) (by omega) HO.out.2.1.size ?_; intro A' c' w' hown' hgr))
            have h1 : lastsTo Vs (k + 1) = lastsTo Vs k ++ [k] := by rw [HY.out, ← HL.out, HK.out]; rfl
            have hlen1 : (lastsTo Vs (k + 1)).length = nn + 1 := by rw [h1, List.length_append, HN.out]; rfl
            have HZ := Lib.hid (And.intro hlen1 (And.intro hown' (And.intro hgr h1)))
            clear hlen1 hown' hgr h1
            go_roundg g
            case measure => omega
            case rel =>
              refine ⟨k + 1, A', c', by omega, by go_num, by rw [HZ.out.1], ?_, ?_⟩
              · rw [HZ.out.1, HZ.out.2.2.2, ints_snoc]; exact HZ.out.2.1
              · exact HO.out.2.1.grown HZ.out.2.2.1 HO.out.2.1.size (fun j hj => ((HO.out.1.lt j hj).1))
        | succ g' =>
          have hlt2 : (m : Int) < (len : Int) := by omega
          have hml : m < len := by omega
          have HRW := Lib.hid (HR.out.keep hbel)
          have HP0 := Lib.hid (And.intro hown hbel)
          obtain ⟨V, hVe⟩ : ∃ V, Vs[k]?.getD [] = V := ⟨_, rfl⟩
          obtain ⟨U, hUe⟩ : ∃ U, Vs[m]?.getD [] = U := ⟨_, rfl⟩
          have hV : V.length = 16 := by
            rw [← hVe]
            have h' : k < Vs.length := by rw [← HL.out]; exact hkl
            rw [List.getElem?_eq_getElem h']; exact HOK.out _ (List.getElem_mem h')
          have hU : U.length = 16 := by
            rw [← hUe]
            have h' : m < Vs.length := by rw [← HL.out]; exact hml
            rw [List.getElem?_eq_getElem h']; exact HOK.out _ (List.getElem_mem h')
          obtain ⟨R, hRe⟩ : ∃ R, cmpv V U = R := ⟨_, rfl⟩
          have HB := Lib.hid (show okTo Vs k (m + 1) = (okTo Vs k m && !((R == -1) || (decide (R = 0) && decide (m < k)))) by rw [okTo_succ]; unfold beat; rw [hVe, hUe, cmpv_neg, hRe])
          have HS := Lib.hid (And.intro hVe (And.intro hUe (And.intro hV (And.intro hU hRe))))
          have hrgV : ∀ w1, Below wr.heap.size wr w1 → w1.rangeAt b (off + k * 16) (ivl V) := fun w1 hC => by
            obtain ⟨_, _, e1, h⟩ := vec_range (HRW.out.keep hC) HOK.out k (by rw [← HL.out]; exact hkl)
            cases e1
            rw [HS.out.1] at h
            exact h
          have hrgU : ∀ w1, Below wr.heap.size wr w1 → w1.rangeAt b (off + m * 16) (ivl U) := fun w1 hC => by
            obtain ⟨_, _, e1, h⟩ := vec_range (HRW.out.keep hC) HOK.out m (by rw [← HL.out]; exact hml)
            cases e1
            rw [HS.out.2.1] at h
            exact h
          obtain ⟨okb, hokb⟩ : ∃ v, okTo Vs k m = v := ⟨_, rfl⟩
          rw [hokb] at HB ⊢
          clear hown hbel hVe hUe hV hU hRe hokb
          have HRG := Lib.hid (And.intro hrgV hrgU)
          clear hrgV hrgU
          go_wp2
          refine wp_region_rel rfl (fun W' => Below wr.heap.size wr W') (fun W1 W2 => Below W1.heap.size W1 W2)
            (fun i => ([fun v _ => v = (.slice (some ⟨b, off, none⟩) len c : Value), fun v _ => v = (.int .i64 (k : Int) : Value), fun v _ => v = (.pointer (some ⟨b, off + k * 16, none⟩) : Value), fun v _ => v = (.agg (ivs V) : Value), fun v _ => v = (.slice (some ⟨b, off, none⟩) len c : Value), fun v _ => v = (.int .i64 (m : Int) : Value), fun v _ => v = (.pointer (some ⟨b, off + m * 16, none⟩) : Value), fun v _ => v = (.agg (ivs U) : Value), fun v _ => v = (.int .i64 R : Value), fun v _ => v = (.int .i64 R : Value)][i]?).getD (fun _ _ => True))
            (fun x => { tmps := #[.slice (some ⟨b, off, none⟩) len c, undef, .slice none 0 0, .slice A3 nn c3, .int .i64 (k : Nat), .bool okb, .int .i64 (m : Nat), x 9, .slice (some ⟨b, off, none⟩) len c, .int .i64 (len : Nat), .int .i64 (k : Nat), .bool true, .int .i64 (k : Nat), .slice (some ⟨b, off, none⟩) len c, .int .i64 (len : Nat), .int .i64 (m : Nat), .bool true, .int .i64 (m : Nat), x 0, x 1, x 2, x 3, x 4, x 5, x 6, x 7, x 8, u27, u28, u29, u30, u31, u32, u33, u34, u35, u36, u37, u38, u39, u40, u41, u42, u43, u44, undef], defers := [] }) (fun x => by simp only [fillL, Act.put, List.setIfInBounds_toArray, List.set_cons_zero, List.set_cons_succ, Nat.reduceAdd]) (by kernel_rfl) (by kernel_rfl) ?xst ((Below.refl _ _).drew) ?xop ?xfin
          case xst =>
            intro i v w1 w2 h hb
            rcases i with _ | _ | _ | _ | _ | _ | _ | _ | _ | _ | i
            · exact h
            · exact h
            · exact h
            · exact h
            · exact h
            · exact h
            · exact h
            · exact h
            · exact h
            · exact h
            · exact h
          case xop =>
            refine .cons (.plain rfl fun x w1 hC hd K hK => ?_) ?_
            · exact wp_value (v := (.slice (some ⟨b, off, none⟩) len c : Value)) (by rfl) (hK _ _ (Below.refl _ _) hC rfl)
            refine .cons (.plain rfl fun x w1 hC hd K hK => ?_) ?_
            · exact wp_value (v := (.int .i64 (k : Int) : Value)) (by rfl) (hK _ _ (Below.refl _ _) hC rfl)
            refine .cons (.plain rfl fun x w1 hC hd K hK => ?_) ?_
            · have d0 : x 0 = (.slice (some ⟨b, off, none⟩) len c : Value) := hd.get 0 rfl
              have d1 : x 1 = (.int .i64 (k : Int) : Value) := hd.get 1 rfl
              dsimp only at hK ⊢
              rw [d0, d1] at hK ⊢
              exact wp_value (v := (.pointer (some ⟨b, off + k * 16, none⟩) : Value)) (by go_simp) (hK _ _ (Below.refl _ _) hC rfl)
            refine .cons (.plain rfl fun x w1 hC hd K hK => ?_) ?_
            · have d2 : x 2 = (.pointer (some ⟨b, off + k * 16, none⟩) : Value) := hd.get 2 rfl
              dsimp only at hK ⊢
              rw [d2] at hK ⊢
              exact wp_value (v := (.agg (ivs V) : Value)) (exec_load_mid 22 (.tmp 20) rfl b (off + k * 16) rfl (ivl V) _ (HRG.out.1 w1 hC) Try.underlying22 rfl (by rw [ivl_length, HS.out.2.2.1]; exact Try.infoArr)) (hK _ _ (Below.refl _ _) hC rfl)
            refine .cons (.plain rfl fun x w1 hC hd K hK => ?_) ?_
            · exact wp_value (v := (.slice (some ⟨b, off, none⟩) len c : Value)) (by rfl) (hK _ _ (Below.refl _ _) hC rfl)
            refine .cons (.plain rfl fun x w1 hC hd K hK => ?_) ?_
            · exact wp_value (v := (.int .i64 (m : Int) : Value)) (by rfl) (hK _ _ (Below.refl _ _) hC rfl)
            refine .cons (.plain rfl fun x w1 hC hd K hK => ?_) ?_
            · have d4 : x 4 = (.slice (some ⟨b, off, none⟩) len c : Value) := hd.get 4 rfl
              have d5 : x 5 = (.int .i64 (m : Int) : Value) := hd.get 5 rfl
              dsimp only at hK ⊢
              rw [d4, d5] at hK ⊢
              exact wp_value (v := (.pointer (some ⟨b, off + m * 16, none⟩) : Value)) (by go_simp) (hK _ _ (Below.refl _ _) hC rfl)
            refine .cons (.plain rfl fun x w1 hC hd K hK => ?_) ?_
            · have d6 : x 6 = (.pointer (some ⟨b, off + m * 16, none⟩) : Value) := hd.get 6 rfl
              dsimp only at hK ⊢
              rw [d6] at hK ⊢
              exact wp_value (v := (.agg (ivs U) : Value)) (exec_load_mid 22 (.tmp 24) rfl b (off + m * 16) rfl (ivl U) _ (HRG.out.2 w1 hC) Try.underlying22 rfl (by rw [ivl_length, HS.out.2.2.2.1]; exact Try.infoArr)) (hK _ _ (Below.refl _ _) hC rfl)
            refine .cons (.plain rfl fun x w1 hC hd K hK => ?_) ?_
            · have d3 : x 3 = (.agg (ivs V) : Value) := hd.get 3 rfl
              have d7 : x 7 = (.agg (ivs U) : Value) := hd.get 7 rfl
              dsimp only at hK ⊢
              rw [d3, d7] at hK ⊢
              exact wp_called (f := 14) (args := #[.agg (ivs V), .agg (ivs U)]) (exec_call 14 _ rfl _ rfl rfl #[.agg (ivs V), .agg (ivs U)] rfl _ Try.func14 (by kernel_rfl) (by kernel_rfl) w1) (rCompare_L V U HS.out.2.2.1 HS.out.2.2.2.1 R HS.out.2.2.2.2 w1) (fun e w' ⟨he, hb⟩ => ⟨_, he, hK _ _ hb (hC.trans (hb.mono hC.size)) rfl⟩)
            refine .cons (.plain rfl fun x w1 hC hd K hK => ?_) ?_
            · have d8 : x 8 = (.int .i64 R : Value) := hd.get 8 rfl
              dsimp only at hK ⊢
              rw [d8] at hK ⊢
              exact wp_value (v := (.int .i64 R : Value)) (by rfl) (hK _ _ (Below.refl _ _) hC rfl)
            exact .nil
          case xfin =>
            intro y w3 hC hΦ
            have d : y 9 = .int .i64 R := hΦ 9 (by decide)
            dsimp only
            rw [d]
            clear hΦ d
            have HP := Lib.hid (And.intro (ownsRow_under HP0.out.1 hC) (HP0.out.2.trans (hC.mono HP0.out.2.size)))
            clear hC
            by_cases h0 : R = -1
            · subst h0
              go_wp2
              go_roundg g'
              case measure => omega
              case rel => exact ⟨m + 1, by omega, by go_num, by rw [HB.out]; simp, HP.out⟩
            · have t1 : (R == -1) = false := by simp [h0]
              by_cases h1 : R = 0
              · subst h1
                by_cases h2 : m < k
                · have t2 : decide ((m : Int) < (k : Int)) = true := by simp; omega
                  go_wp2
                  go_roundg g'
                  case measure => omega
                  case rel => exact ⟨m + 1, by omega, by go_num, by rw [HB.out]; simp [h2], HP.out⟩
                · have t2 : decide ((m : Int) < (k : Int)) = false := by simp; omega
                  go_wp2
                  go_roundg g'
                  case measure => omega
                  case rel => exact ⟨m + 1, by omega, by go_num, by rw [HB.out]; simp [h2], HP.out⟩
              · have t2 : (R == 0) = false := by simp [h1]
                go_wp2
                go_roundg g'
                case measure => omega
                case rel => exact ⟨m + 1, by omega, by go_num, by rw [HB.out]; simp [h0, h1], HP.out⟩

end Go.Proofs.Ytilnkfcggfaheaa
