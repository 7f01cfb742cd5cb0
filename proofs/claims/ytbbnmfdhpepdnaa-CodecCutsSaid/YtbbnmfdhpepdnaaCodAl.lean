/-
  The walk of CodecAnys.
-/
import Derived.Test.YtbbnmfdhpepdnaaCodAc
namespace Go.Proofs.Ytbbnmfdhpepdnaa
open Go.RowKit

set_option maxRecDepth 100000 in
set_option maxHeartbeats 1000000 in
theorem anys_long (A0 : Option Addr) (c0 n0 : Nat) (A1 : Option Addr) (c1 n1 : Nat) (most : Int) (w : World) (h : 300 < n0 ∨ 60 < n1) :
    Calls Try.prog 4 #[.slice A0 n0 c0, .slice A1 n1 c1, .int .i64 most] w fun e w' => e = .returned (.bool true) ∧ Below w.heap.size w w' := by
  obtain ⟨W, hW⟩ : ∃ W, (w.alloc (.cells #[.slice A1 n1 c1] 25)).alloc (.cells #[.int .i64 most] 3) = W := ⟨_, rfl⟩
  have hb : Below w.heap.size w W := by rw [← hW]; exact ((Below.refl _ w).alloc (Nat.le_refl _) _).alloc (by simp) _
  have h4 : W.heap[w.heap.size]? = some (.cells #[.slice A1 n1 c1] 25 (0, 0)) := by rw [← hW]; exact heap_alloc2_old w _ _
  have hsW : W.heap.size = w.heap.size + 2 := by rw [← hW]; simp
  go_enter Try.func4, Try.ntmps4
  go_wp2_with (fail)
  clear hW
  refine (awake_any _).mono ?_
  rintro e w1 ⟨rfl, h1⟩
  have c4 := (h1.cell (p := ⟨w.heap.size, 0, none⟩) (by simp; omega)).trans (cell_of_row W w.heap.size 0 _ _ _ h4)
  have HB := Lib.hid (hb.trans (h1.mono hb.size))
  clear h4 hb h1 hsW
  by_cases h0 : 300 < n0
  · have t1 : decide ((n0 : Int) > 300) = true := by simp; omega
    clear h h0
    go_wp2_with (fail)
    refine (awake_any _).mono ?_
    rintro e w2 ⟨rfl, h2⟩
    go_wp2
    go_ret
    exact ⟨rfl, HB.out.trans (h2.mono HB.out.size)⟩
  · have t1 : decide ((n0 : Int) > 300) = false := by simp; omega
    have t2 : decide ((n1 : Int) > 60) = true := by simp; omega
    clear h h0
    go_wp2_with (fail)
    refine (awake_any _).mono ?_
    rintro e w2 ⟨rfl, h2⟩
    go_wp2
    go_ret
    exact ⟨rfl, HB.out.trans (h2.mono HB.out.size)⟩

/-- how the reading ends -/
def endC (r : Except Nat (List Nat)) : Int := match r with
  | .error e => (e : Int)
  | .ok ys => if ys = [] then 0 else 6
theorem itemsT_length (most : Int) : ∀ (ks xs : List Nat), (itemsT most ks xs).length ≤ ks.length
  | [], _ => Nat.le_refl _
  | k :: ks, xs => by
    cases h : nextT (k % 6) most xs with
    | error e => rw [itemsT_no h]; simp
    | ok s =>
      obtain ⟨⟨N, bs⟩, ys⟩ := s
      rw [itemsT_ok h]
      have := itemsT_length most ks ys
      simp only [List.length_cons]; omega
theorem nextT_suffix {k : Nat} {most : Int} {xs ys bs : List Nat} {N : Nat} (h : nextT k most xs = .ok ((N, bs), ys)) : ∃ m, m ≤ xs.length ∧ ys = xs.drop m := by
  unfold nextT at h
  split at h
  · unfold bytesT at h
    cases hn : numT most 0 0 xs with
    | error e => rw [hn] at h; cases h
    | ok s =>
      obtain ⟨v, zs⟩ := s
      rw [hn] at h
      dsimp only at h
      obtain ⟨q, _, hq, rfl⟩ := numT_suffix most xs 0 0 v zs hn
      split at h
      · cases h
      · rename_i h2
        split at h2
        · rename_i hv
          cases h2; cases h
          rw [List.length_drop] at hv
          exact ⟨q + v, by omega, by rw [List.drop_drop]⟩
        · cases h2
  · split at h
    · split at h
      · cases h
      · rename_i h2
        cases h
        unfold truthT at h2
        split at h2
        · cases h2
        · split at h2
          · cases h2
          · cases h2; exact ⟨1, by simp, by simp⟩
    · split at h
      · unfold takeT at h
        split at h
        · cases h
        · rename_i h2
          split at h2
          · cases h2; cases h; exact ⟨32, by omega, rfl⟩
          · cases h2
      · split at h
        · cases h
        · rename_i h2
          cases h
          obtain ⟨q, _, hq, rfl⟩ := numT_suffix most xs 0 0 _ _ h2
          exact ⟨q, hq, rfl⟩
theorem wpList_bs {P : Program} {ops : Array Oper} {rest : List Oper} {o : Oper} {a : Act} {w : World} {Q : Exit → Act → World → Prop} (hgd : o.guard = none) (T : TypeId) (n : Nat) (parts : Array (Nat × Operand)) (ho : o.op = .buildSlice T n parts) (ps : List (Nat × Value))
    (hp : parts.toList.map (fun p => (p.1, a.eval p.2)) = ps) (v : Value) (w' : World) (h : (Instr.buildSlice T n ps.toArray).run P w = .ok v w') (hk : wpList P ops Q rest (a.put o.dst v) w') : wpList P ops Q (o :: rest) a w :=
  wpList_plain hgd fun _ hK => wp_value' (exec_build T n parts ho ps hp h) (hK _ _ hk)
theorem run_bs_item (k N : Int) (A : Option Addr) (n c : Nat) (w : World) :
    (Instr.buildSlice 31 1 #[(0, .agg #[.int .i64 k, .int .i64 N, .slice A n c])]).run Try.prog w = .ok (.slice (some ⟨w.heap.size, 0, none⟩) 1 1) (w.alloc (.cells #[.int .i64 k, .int .i64 N, .slice A n c] 33)) := by kernel_rfl
/-- an item's bytes lie where no item lies -/
def ItBy (w : World) (Aw : Option Addr) (t : It) : Prop := RowU8 w t.A t.bs ∧ (t.bs ≠ [] → ∀ a, t.A = some a → ∀ b, Aw = some b → a.block ≠ b.block)
theorem RowU8.blt {w : World} {A : Option Addr} {xs : List Nat} (h : RowU8 w A xs) (h0 : xs ≠ []) (a : Addr) (ha : A = some a) : a.block < w.heap.size := by
  obtain ⟨b, off, e, hc⟩ := h.form (List.length_pos_iff.2 h0)
  rw [ha] at e
  cases e
  exact block_lt_of_cell (hc 0 (List.length_pos_iff.2 h0))
theorem RowU8.to {w w' : World} {A : Option Addr} {xs : List Nat} (h : RowU8 w A xs) (hk : xs ≠ [] → ∀ a, A = some a → w'.heap[a.block]? = w.heap[a.block]?) : RowU8 w' A xs := by
  by_cases h0 : xs = []
  · subst h0; exact row_nil _ _
  · exact h.same (hk h0)
theorem ItBy.next {w w' : World} {Aw Aw' : Option Addr} {n c : Nat} {t : It} (h : ItBy w Aw t) (hg : w.grownBy w' (Value.slice Aw n c).ownBlock) (hA : ∀ a, Aw' = some a → (Value.slice Aw n c).ownBlock = some a.block ∨ w.heap.size ≤ a.block) : ItBy w' Aw' t := by
  refine ⟨h.1.to fun h0 a ha => hg.block _ (h.1.blt h0 a ha) ?_, fun h0 a ha b hb hab => ?_⟩
  · intro e
    cases hAw : Aw with
    | none => rw [hAw] at e; simp [Value.ownBlock] at e
    | some b =>
      have := h.2 h0 a ha b hAw
      rw [hAw] at e
      simp only [Value.ownBlock, Option.some.injEq] at e
      exact this e
  · have hlt := h.1.blt h0 a ha
    rcases hA b hb with h1 | h1
    · cases hAw : Aw with
      | none => rw [hAw] at h1; simp [Value.ownBlock] at h1
      | some b2 =>
        have := h.2 h0 a ha b2 hAw
        rw [hAw] at h1
        simp only [Value.ownBlock, Option.some.injEq] at h1
        omega
    · omega
theorem ItBy.keep {w w' : World} {Aw : Option Addr} {t : It} (h : ItBy w Aw t) (hb : Below w.heap.size w w') : ItBy w' Aw t := ⟨h.1.below hb, h.2⟩
theorem ItBy.set {w : World} {Aw : Option Addr} {t : It} (h : ItBy w Aw t) {g : Nat} {s : Option Addr} {n c : Nat} {T : TypeId} {fr : Nat × Nat} (hg : w.heap[g]? = some (.cells #[.slice s n c] T fr)) (v : Value) : ItBy (w.setCell ⟨g, 0, none⟩ v) Aw t :=
  ⟨h.1.to fun h0 a ha => heap_setCell_other _ _ _ _ (by
    intro e
    obtain ⟨b, off, e1, hc⟩ := h.1.form (List.length_pos_iff.2 h0)
    rw [ha] at e1
    cases e1
    have h3 := hc 0 (List.length_pos_iff.2 h0)
    have eb : b = g := e
    subst eb
    rw [cell_of_row w b _ _ _ _ hg] at h3
    rcases off with _ | off
    · simp at h3
    · simp at h3), h.2⟩
theorem info_items : (Try.prog.info? 33).map (fun i => (i.zero, i.size, i.bytes)) = some (some (.agg (item0 0)), 3, 40) := by kernel_rfl

set_option maxRecDepth 100000 in
set_option maxHeartbeats 4000000 in
theorem anys_short (A0 : Option Addr) (c0 : Nat) (xs : List Nat) (A1 : Option Addr) (c1 : Nat) (ks : List Nat) (most : Int) (w : World) (hx : RowU8 w A0 xs) (hk : RowU8 w A1 ks) (hx3 : xs.length ≤ 300) (hk6 : ks.length ≤ 60) (hc0 : xs.length ≤ c0) (hb0 : c0 ≤ 9223372036854775807) :
    Calls Try.prog 4 #[.slice A0 xs.length c0, .slice A1 ks.length c1, .int .i64 most] w fun e w' => e = .returned (.bool true) ∧ Below w.heap.size w w' := by
  obtain ⟨i0, hi, hi0, hi1, hi2⟩ := info_parts info_items
  have HI := Lib.hid (And.intro hi (And.intro hi0 (And.intro hi1 hi2)))
  obtain ⟨i1, hj, hj0, hj1, hj2⟩ := info_parts info_byte
  have HJ := Lib.hid (And.intro hj (And.intro hj0 (And.intro hj1 hj2)))
  clear hi hi0 hi1 hi2 hj hj0 hj1 hj2
  obtain ⟨n0, hn0⟩ : ∃ n, xs.length = n := ⟨_, rfl⟩
  obtain ⟨n1, hn1⟩ : ∃ n, ks.length = n := ⟨_, rfl⟩
  rw [hn0] at hx3 hc0 ⊢
  rw [hn1] at hk6 ⊢
  obtain ⟨W, hW⟩ : ∃ W, (w.alloc (.cells #[.slice A1 n1 c1] 25)).alloc (.cells #[.int .i64 most] 3) = W := ⟨_, rfl⟩
  have hb : Below w.heap.size w W := by rw [← hW]; exact ((Below.refl _ w).alloc (Nat.le_refl _) _).alloc (by simp) _
  have h4 : W.heap[w.heap.size]? = some (.cells #[.slice A1 n1 c1] 25 (0, 0)) := by rw [← hW]; exact heap_alloc2_old w _ _
  have h5 : W.heap[w.heap.size + 1]? = some (.cells #[.int .i64 most] 3 (0, 0)) := by rw [← hW]; exact heap_alloc2_new w _ _
  have hsW : W.heap.size = w.heap.size + 2 := by rw [← hW]; simp
  have t1 : decide ((n0 : Int) > 300) = false := by simp; omega
  have t2 : decide ((n1 : Int) > 60) = false := by simp; omega
  go_enter Try.func4, Try.ntmps4
  go_wp2_with (fail)
  clear hW
  refine (awake_any _).mono ?_
  rintro e w1 ⟨rfl, h1⟩
  obtain ⟨bk, hbk⟩ : ∃ bk, w.heap.size = bk := ⟨_, rfl⟩
  have h41 := (h1.block _ (by omega)).trans h4
  have h51 := (h1.block _ (by omega)).trans h5
  have hs1 : w.heap.size + 2 ≤ w1.heap.size := by have := h1.size; omega
  have hbw1 := hb.trans (h1.mono hb.size)
  rw [hbk] at h41 h51 hs1
  obtain ⟨w2, hw2⟩ : ∃ w2, w1.alloc (.cells #[.slice none 0 0] 31) = w2 := ⟨_, rfl⟩
  have hb12 : Below w1.heap.size w1 w2 := by rw [← hw2]; exact (Below.refl _ w1).alloc (Nat.le_refl _) _
  have h72 : w2.heap[w1.heap.size]? = some (.cells #[.slice none 0 0] 31 (0, 0)) := by rw [← hw2]; exact heap_alloc_new w1 _
  have hs2 : w2.heap.size = w1.heap.size + 1 := by rw [← hw2]; simp
  obtain ⟨bw, hbw⟩ : ∃ bw, w1.heap.size = bw := ⟨_, rfl⟩
  have c41 := cell_of_row w1 bk 0 _ _ _ h41
  have h41 := (hb12.block _ (by omega)).trans h41
  have h51 := (hb12.block _ (by omega)).trans h51
  have c4 := cell_of_row w2 bk 0 _ _ _ h41
  have hbw2 := hbw1.trans (hb12.mono hbw1.size)
  rw [hbw] at h72 hs2
  have HW := Lib.hid (And.intro h41 (And.intro h51 (And.intro h72 (And.intro hx (And.intro hk (And.intro hbw2 (And.intro hn0 (And.intro hn1 (And.intro hbk (And.intro hs2 (show bk + 2 ≤ bw by omega)))))))))))
  rw [hbk]
  clear h4 h5 hb h1 hsW h41 h51 hs1 hx hk hbw1 hn0 hn1 hbk hb12 h72 hs2 hbw2
  go_wp2_with (fail)
  clear hw2 hbw
  go_loopg [8, 9, 11, 12, 13, 14, 35] n1 (fun gk s8 s9 s11 s12 s13 s14 s35 wx => ∃ (j : Nat) (l : List It) (ys : List Nat) (A : Option Addr) (c : Nat) (Aw : Option Addr) (cw : Nat), j + gk = n1 ∧ s35 = .int .i64 (j : Int) ∧ s9 = .int .i64 0 ∧ s8 = .slice A ys.length c ∧ l.length = j ∧
    RowU8 w A ys ∧ ys.length ≤ c ∧ c ≤ 9223372036854775807 ∧ ys.length ≤ 300 ∧ l.map It.key ++ itemsT most (ks.drop j) ys = itemsT most ks xs ∧ endT most (ks.drop j) ys = endT most ks xs ∧
    wx.heap[bw]? = some (.cells #[.slice Aw l.length cw] 31 (0, 0)) ∧ wx.ownsRow (bw + 1) 33 3 (.slice Aw l.length cw) l.length (l.flatMap itc) ∧ (∀ t ∈ l, ItBy wx Aw t) ∧ Below bw w2 wx)
  case atStart => exact ⟨0, [], xs, A0, c0, none, 0, by omega, rfl, rfl, by rw [HW.out.2.2.2.2.2.2.1], rfl, HW.out.2.2.2.1, by rw [HW.out.2.2.2.2.2.2.1]; exact hc0, hb0, by rw [HW.out.2.2.2.2.2.2.1]; exact hx3, rfl, rfl, HW.out.2.2.1, World.ownsRow_nil _ _ _ _, by simp, Below.refl _ _⟩
  case round =>
    obtain ⟨j, l, ys, A, c, Aw, cw, hjg, rfl, rfl, rfl, hlj, hys, hyc, hcb, hy3, hits, hend, hbwc, hown, hby, hbel⟩ := hrel
    cases gk with
    | zero =>
      obtain rfl : j = n1 := by omega
      have hkz : ¬ ((j : Int) < (j : Int)) := by omega
      have hnil : ks.drop j = [] := List.drop_eq_nil_of_le (by rw [HW.out.2.2.2.2.2.2.2.1]; exact Nat.le_refl _)
      rw [hnil] at hits hend
      have HT := Lib.hid (And.intro hbwc (And.intro hown (And.intro hby (And.intro hbel (And.intro ((List.append_nil _).symm.trans hits) (show l.length ≤ 60 by omega))))))
      by_cases hy0 : ys = []
      · subst hy0
        have hE : endC (endT most ks xs) = 0 := by rw [← hend]; rfl
        clear hbwc hown hby hbel hits hend hnil hlj hjg hys
        have HE := Lib.hid hE
        have hbwt := HT.out.1
        have hrowx : RowU8 wr A0 xs := HW.out.2.2.2.1.below (HW.out.2.2.2.2.2.1.trans (HT.out.2.2.2.1.mono (by have := HW.out; omega)))
        have hst : bw + 1 ≤ wr.heap.size := by have := (Array.getElem?_eq_some_iff.1 hbwt).1; omega
        have HRX := Lib.hid hrowx
        have hbs := run_empty_bytes wr
        have HO := Lib.hid (own_empty wr)
        have HV := Lib.hid (hrowx.below ((Below.refl _ wr).alloc (Nat.le_refl _) (.cells #[] 5))).rowv
        clear hE hrowx hbwt
        go_wp2_with (first
          | (refine wpList_append_rowv _ rfl (.tmp 67) (.tmp 68) 25 rfl wr.heap.size 5 i1 (.int .u8 0) 1 1 Try.underlying25 HJ.out.1 HJ.out.2.1 HJ.out.2.2.1 HJ.out.2.2.2 (by rfl) (by omega) (.slice (some ⟨wr.heap.size, 0, none⟩) 0 0) 0 [] rfl HO.out A0 n0 c0 (u8v xs) rfl HV.out (by rw [u8v_length, HW.out.2.2.2.2.2.2.1, Nat.mul_one]) (u8v_one xs) (by unfold maxLen; omega) (by omega) (by simp) ?_; intro A3 c3 w8 hown8 hgr8))
        have hn0' := HW.out.2.2.2.2.2.2.1
        obtain ⟨hrow8, hbel8, hfrom8⟩ := copied (bs := xs) (w := wr) (w1 := wr) HRX.out.lt (Below.refl _ _) (by rw [hn0']; exact hown8) hgr8
        have hs8 := hbel8.size
        have hsw : w2.heap.size ≤ wr.heap.size := HT.out.2.2.2.1.size
        have hb28 : Below bw w2 w8 := HT.out.2.2.2.1.trans (hbel8.mono (by omega))
        have hbw8 : Below w.heap.size w w8 := HW.out.2.2.2.2.2.1.trans (hb28.mono (by have := HW.out; omega))
        have hw8 : ∀ k, k < wr.heap.size → w8.heap[k]? = wr.heap[k]? := fun k hk => hbel8.block k hk
        have hctx : AnyCtx w8 most bk (bk + 1) bw A1 c1 ks Aw cw l :=
          ⟨by rw [HW.out.2.2.2.2.2.2.2.1, hb28.block bk (by have := HW.out; omega)]; exact HW.out.1, (hb28.block (bk + 1) (by have := HW.out; omega)).trans HW.out.2.1, (hw8 bw (by omega)).trans HT.out.1,
            HW.out.2.2.2.2.1.below hbw8, ⟨RowV.of_own (ownsRow_keep HT.out.2.1 fun g _ hl => hbel8.block g hl), fun t ht => (HT.out.2.2.1 t ht).1.below hbel8⟩, by rw [HW.out.2.2.2.2.2.2.2.1]; exact hk6, HT.out.2.2.2.2.2⟩
        obtain ⟨q, hq⟩ : ∃ q, w8.heap.size = q := ⟨_, rfl⟩
        have h9n : ((w8.alloc (.cells #[.int .i64 0] 3)).alloc (.cells #[.bool true] 4)).heap[w8.heap.size]? = some (.cells #[.int .i64 0] 3 (0, 0)) := heap_alloc2_old w8 _ _
        have h9o : ((w8.alloc (.cells #[.int .i64 0] 3)).alloc (.cells #[.bool true] 4)).heap[w8.heap.size + 1]? = some (.cells #[.bool true] 4 (0, 0)) := heap_alloc2_new w8 _ _
        have hb89 : Below w8.heap.size w8 ((w8.alloc (.cells #[.int .i64 0] 3)).alloc (.cells #[.bool true] 4)) := ((Below.refl _ _).alloc (Nat.le_refl _) _).alloc (by simp) _
        have hs9 : ((w8.alloc (.cells #[.int .i64 0] 3)).alloc (.cells #[.bool true] 4)).heap.size = w8.heap.size + 2 := by simp
        obtain ⟨W9, hW9⟩ : ∃ W9, (w8.alloc (.cells #[.int .i64 0] 3)).alloc (.cells #[.bool true] 4) = W9 := ⟨_, rfl⟩
        rw [hW9] at h9n h9o hb89 hs9
        have hits := HT.out.2.2.2.2.1
        have HRd := Lib.hid (Read_any (.func 14) 14 rfl #[.pointer (some ⟨bk, 0, none⟩), .pointer (some ⟨bk + 1, 0, none⟩), .pointer (some ⟨q + 1, 0, none⟩), .pointer (some ⟨q, 0, none⟩), .pointer (some ⟨bw, 0, none⟩)] A3 c3 xs W9 (hrow8.below hb89) (by omega)
          (fun ys w1 => endT most ks xs = .ok ys ∧ AnyAt w8 l.length w1) (fun code w1 => ∃ e : Nat, code = (e : Int) ∧ endT most ks xs = .error e ∧ AnyAt w8 l.length w1)
          (fun args w => by kernel_rfl) (fun wz g A' c' hrd hbw hg hA => by
            rw [hs9, hq] at hbw hg hA ⊢
            exact anysF w8 most bk (bk + 1) bw A1 c1 ks Aw cw l hctx xs hits q hq g A' c' wz hrd ⟨(hbw.block _ (by omega)).trans h9n, (hbw.block _ (by omega)).trans h9o, hb89.trans (hbw.mono (by omega))⟩ hg hA))
        rw [hn0'] at HRd
        have HY := Lib.hid (And.intro hrow8 (And.intro hb28 (And.intro hbw8 (And.intro hb89 (And.intro hs9 (And.intro hq (And.intro hctx hsw)))))))
        clear hrow8 hb28 hbw8 hb89 hs9 hctx h9n h9o hits hw8 hbel8 hfrom8 hs8 hn0' hown8 hgr8 hsw
        rw [hW9, hq]
        refine HRd.out.mono ?_
        clear HRd hW9
        rintro e w10 ⟨w11, hos, htape, hout, hsz, hb, hcase⟩
        obtain ⟨rfl, hat⟩ : e = .returned (.int .i64 (endC (endT most ks xs))) ∧ AnyAt w8 l.length w11 := by
          rcases hcase with ⟨zs, rfl, he, hat⟩ | ⟨code, rfl, e', rfl, he, hat⟩
          · exact ⟨by rw [he]; rfl, hat⟩
          · exact ⟨by rw [he]; rfl, hat⟩
        rw [HE.out]
        clear hcase hos htape hout hq
        obtain ⟨hrow8, hb28, hbw8, hb89, hs9, hq, hctx, hsw⟩ := HY.out
        have hs8 := hb28.size
        rw [hs9, hq] at hb hsz
        have hb810 : Below w8.heap.size w8 w10 := hat.below.trans (hb.mono (by omega))
        have hn10 : w10.heap[q]? = some (.cells #[.int .i64 (l.length : Int)] 3 (0, 0)) := (hb.block _ (by omega)).trans (by rw [← hq]; exact hat.hn)
        have ho10 : w10.heap[q + 1]? = some (.cells #[.bool true] 4 (0, 0)) := (hb.block _ (by omega)).trans (by rw [← hq]; exact hat.ho)
        have hw10 := (hb810.block bw (Array.getElem?_eq_some_iff.1 hctx.hw).1).trans hctx.hw
        have cn10 := cell_of_row w10 q 0 _ _ _ hn10
        have co10 := cell_of_row w10 (q + 1) 0 _ _ _ ho10
        have cw10 := cell_of_row w10 bw 0 _ _ _ hw10
        have hc1 := str_of w10 A3 xs (hrow8.below hb810) c3
        have hc2 := str_of w10 A0 xs (HW.out.2.2.2.1.below (hbw8.trans (hb810.mono hbw8.size))) c0
        rw [HW.out.2.2.2.2.2.2.1] at hc1 hc2
        have HB := Lib.hid (hbw8.trans (hb810.mono hbw8.size))
        have hl60 := HT.out.2.2.2.2.2
        clear hrow8 hb28 hbw8 hb89 hs9 hctx hsw hs8 hb hsz hat hb810 hn10 ho10 hw10 HY hq
        generalize l.length = ll at *
        generalize bstr xs = bx at *
        go_wp2_with (fail)
        go_ret
        exact ⟨rfl, HB.out⟩
      · have hE : endC (endT most ks xs) = 6 := by rw [← hend]; exact if_neg hy0
        have hypos : 0 < ys.length := List.length_pos_iff.2 hy0
        generalize ys.length = ly at *
        clear hbwc hown hby hbel hits hend hnil hlj hjg hys hy0
        have HE := Lib.hid hE
        have hbwt := HT.out.1
        have hrowx : RowU8 wr A0 xs := HW.out.2.2.2.1.below (HW.out.2.2.2.2.2.1.trans (HT.out.2.2.2.1.mono (by have := HW.out; omega)))
        have hst : bw + 1 ≤ wr.heap.size := by have := (Array.getElem?_eq_some_iff.1 hbwt).1; omega
        have HRX := Lib.hid hrowx
        have hbs := run_empty_bytes wr
        have HO := Lib.hid (own_empty wr)
        have HV := Lib.hid (hrowx.below ((Below.refl _ wr).alloc (Nat.le_refl _) (.cells #[] 5))).rowv
        clear hE hrowx hbwt
        go_wp2_with (first
          | (refine wpList_append_rowv _ rfl (.tmp 67) (.tmp 68) 25 rfl wr.heap.size 5 i1 (.int .u8 0) 1 1 Try.underlying25 HJ.out.1 HJ.out.2.1 HJ.out.2.2.1 HJ.out.2.2.2 (by rfl) (by omega) (.slice (some ⟨wr.heap.size, 0, none⟩) 0 0) 0 [] rfl HO.out A0 n0 c0 (u8v xs) rfl HV.out (by rw [u8v_length, HW.out.2.2.2.2.2.2.1, Nat.mul_one]) (u8v_one xs) (by unfold maxLen; omega) (by omega) (by simp) ?_; intro A3 c3 w8 hown8 hgr8))
        have hn0' := HW.out.2.2.2.2.2.2.1
        obtain ⟨hrow8, hbel8, hfrom8⟩ := copied (bs := xs) (w := wr) (w1 := wr) HRX.out.lt (Below.refl _ _) (by rw [hn0']; exact hown8) hgr8
        have hs8 := hbel8.size
        have hsw : w2.heap.size ≤ wr.heap.size := HT.out.2.2.2.1.size
        have hb28 : Below bw w2 w8 := HT.out.2.2.2.1.trans (hbel8.mono (by omega))
        have hbw8 : Below w.heap.size w w8 := HW.out.2.2.2.2.2.1.trans (hb28.mono (by have := HW.out; omega))
        have hw8 : ∀ k, k < wr.heap.size → w8.heap[k]? = wr.heap[k]? := fun k hk => hbel8.block k hk
        have hctx : AnyCtx w8 most bk (bk + 1) bw A1 c1 ks Aw cw l :=
          ⟨by rw [HW.out.2.2.2.2.2.2.2.1, hb28.block bk (by have := HW.out; omega)]; exact HW.out.1, (hb28.block (bk + 1) (by have := HW.out; omega)).trans HW.out.2.1, (hw8 bw (by omega)).trans HT.out.1,
            HW.out.2.2.2.2.1.below hbw8, ⟨RowV.of_own (ownsRow_keep HT.out.2.1 fun g _ hl => hbel8.block g hl), fun t ht => (HT.out.2.2.1 t ht).1.below hbel8⟩, by rw [HW.out.2.2.2.2.2.2.2.1]; exact hk6, HT.out.2.2.2.2.2⟩
        obtain ⟨q, hq⟩ : ∃ q, w8.heap.size = q := ⟨_, rfl⟩
        have h9n : ((w8.alloc (.cells #[.int .i64 0] 3)).alloc (.cells #[.bool true] 4)).heap[w8.heap.size]? = some (.cells #[.int .i64 0] 3 (0, 0)) := heap_alloc2_old w8 _ _
        have h9o : ((w8.alloc (.cells #[.int .i64 0] 3)).alloc (.cells #[.bool true] 4)).heap[w8.heap.size + 1]? = some (.cells #[.bool true] 4 (0, 0)) := heap_alloc2_new w8 _ _
        have hb89 : Below w8.heap.size w8 ((w8.alloc (.cells #[.int .i64 0] 3)).alloc (.cells #[.bool true] 4)) := ((Below.refl _ _).alloc (Nat.le_refl _) _).alloc (by simp) _
        have hs9 : ((w8.alloc (.cells #[.int .i64 0] 3)).alloc (.cells #[.bool true] 4)).heap.size = w8.heap.size + 2 := by simp
        obtain ⟨W9, hW9⟩ : ∃ W9, (w8.alloc (.cells #[.int .i64 0] 3)).alloc (.cells #[.bool true] 4) = W9 := ⟨_, rfl⟩
        rw [hW9] at h9n h9o hb89 hs9
        have hits := HT.out.2.2.2.2.1
        have HRd := Lib.hid (Read_any (.func 14) 14 rfl #[.pointer (some ⟨bk, 0, none⟩), .pointer (some ⟨bk + 1, 0, none⟩), .pointer (some ⟨q + 1, 0, none⟩), .pointer (some ⟨q, 0, none⟩), .pointer (some ⟨bw, 0, none⟩)] A3 c3 xs W9 (hrow8.below hb89) (by omega)
          (fun ys w1 => endT most ks xs = .ok ys ∧ AnyAt w8 l.length w1) (fun code w1 => ∃ e : Nat, code = (e : Int) ∧ endT most ks xs = .error e ∧ AnyAt w8 l.length w1)
          (fun args w => by kernel_rfl) (fun wz g A' c' hrd hbw hg hA => by
            rw [hs9, hq] at hbw hg hA ⊢
            exact anysF w8 most bk (bk + 1) bw A1 c1 ks Aw cw l hctx xs hits q hq g A' c' wz hrd ⟨(hbw.block _ (by omega)).trans h9n, (hbw.block _ (by omega)).trans h9o, hb89.trans (hbw.mono (by omega))⟩ hg hA))
        rw [hn0'] at HRd
        have HY := Lib.hid (And.intro hrow8 (And.intro hb28 (And.intro hbw8 (And.intro hb89 (And.intro hs9 (And.intro hq (And.intro hctx hsw)))))))
        clear hrow8 hb28 hbw8 hb89 hs9 hctx h9n h9o hits hw8 hbel8 hfrom8 hs8 hn0' hown8 hgr8 hsw
        rw [hW9, hq]
        refine HRd.out.mono ?_
        clear HRd hW9
        rintro e w10 ⟨w11, hos, htape, hout, hsz, hb, hcase⟩
        obtain ⟨rfl, hat⟩ : e = .returned (.int .i64 (endC (endT most ks xs))) ∧ AnyAt w8 l.length w11 := by
          rcases hcase with ⟨zs, rfl, he, hat⟩ | ⟨code, rfl, e', rfl, he, hat⟩
          · exact ⟨by rw [he]; rfl, hat⟩
          · exact ⟨by rw [he]; rfl, hat⟩
        rw [HE.out]
        clear hcase hos htape hout hq
        obtain ⟨hrow8, hb28, hbw8, hb89, hs9, hq, hctx, hsw⟩ := HY.out
        have hs8 := hb28.size
        rw [hs9, hq] at hb hsz
        have hb810 : Below w8.heap.size w8 w10 := hat.below.trans (hb.mono (by omega))
        have hn10 : w10.heap[q]? = some (.cells #[.int .i64 (l.length : Int)] 3 (0, 0)) := (hb.block _ (by omega)).trans (by rw [← hq]; exact hat.hn)
        have ho10 : w10.heap[q + 1]? = some (.cells #[.bool true] 4 (0, 0)) := (hb.block _ (by omega)).trans (by rw [← hq]; exact hat.ho)
        have hw10 := (hb810.block bw (Array.getElem?_eq_some_iff.1 hctx.hw).1).trans hctx.hw
        have cn10 := cell_of_row w10 q 0 _ _ _ hn10
        have co10 := cell_of_row w10 (q + 1) 0 _ _ _ ho10
        have cw10 := cell_of_row w10 bw 0 _ _ _ hw10
        have hc1 := str_of w10 A3 xs (hrow8.below hb810) c3
        have hc2 := str_of w10 A0 xs (HW.out.2.2.2.1.below (hbw8.trans (hb810.mono hbw8.size))) c0
        rw [HW.out.2.2.2.2.2.2.1] at hc1 hc2
        have HB := Lib.hid (hbw8.trans (hb810.mono hbw8.size))
        have hl60 := HT.out.2.2.2.2.2
        clear hrow8 hb28 hbw8 hb89 hs9 hctx hsw hs8 hb hsz hat hb810 hn10 ho10 hw10 HY hq
        generalize l.length = ll at *
        generalize bstr xs = bx at *
        go_wp2_with (fail)
        go_ret
        exact ⟨rfl, HB.out⟩
    | succ gj =>
      obtain ⟨wo, rfl⟩ : ∃ wo : World, wo = wr := ⟨_, rfl⟩
      have hjl2 : j < ks.length := by rw [HW.out.2.2.2.2.2.2.2.1]; omega
      have hlt : (j : Int) < (n1 : Int) := by omega
      obtain ⟨k, hk, hke⟩ : ∃ k, ks.drop j = k :: ks.drop (j + 1) ∧ ks[j]?.getD 0 = k := ⟨ks[j], List.drop_eq_getElem_cons hjl2, by rw [List.getElem?_eq_getElem hjl2]; rfl⟩
      have hk256 : k < 256 := by rw [← hke]; exact getD_lt HW.out.2.2.2.2.1.lt j
      have hb0 : Below w.heap.size w wo := HW.out.2.2.2.2.2.1.trans (hbel.mono (by have := HW.out; omega))
      obtain ⟨b, off, e1, hc⟩ := (HW.out.2.2.2.2.1.below hb0).form (by omega)
      have c1 := hc j hjl2
      rw [hke] at c1
      subst e1
      have cm := (hbel.cell (p := ⟨bk + 1, 0, none⟩) (by have := HW.out; show bk + 1 < bw; omega)).trans (cell_of_row w2 (bk + 1) 0 _ _ _ HW.out.2.1)
      have e6 : (k : Int) % 6 = ((k % 6 : Nat) : Int) := by omega
      have HN := Lib.hid (rNext_any (k % 6) (Nat.mod_lt _ (by decide)) A c ys most wo (hys.below hb0) hyc hcb (by omega))
      rw [hk] at hits hend
      rw [hlj] at hbwc hown
      have HR := Lib.hid (And.intro hjg (And.intro hlj (And.intro hys (And.intro hyc (And.intro hcb (And.intro hy3 (And.intro hits (And.intro hend (And.intro hbwc (And.intro hown (And.intro hby hbel)))))))))))
      have HK := Lib.hid hk
      clear hjg hlj hys hyc hcb hy3 hits hend hbwc hown hby hbel hb0 hc hjl2 hke hk
      generalize hkk : k % 6 = kk at *
      go_wp2_with (fail)
      refine HN.out.mono ?_
      clear HN c1 cm
      rintro e w3 ⟨hb3, hp⟩
      cases hnx : nextT kk most ys with
      | error code =>
        rw [hnx] at hp
        obtain ⟨rfl, hcode⟩ := hp
        obtain ⟨hjg, hlj, hys, hyc, hcb, hy3, hits, hend, hbwc, hown, hby, hbel⟩ := HR.out
        have hset := setRow_new w3 (item0 0) (item0 0) 33
        have hzn := heap_alloc_new w3 (.cells (item0 0) 33)
        have hzi := run_zero_item
        obtain ⟨w4, hw4⟩ : ∃ w4, w3.alloc (.cells (item0 0) 33) = w4 := ⟨_, rfl⟩
        have hb34 : Below w3.heap.size w3 w4 := by rw [← hw4]; exact (Below.refl _ w3).alloc (Nat.le_refl _) _
        have hwo : bw + 1 ≤ wo.heap.size := by have := (Array.getElem?_eq_some_iff.1 hbwc).1; omega
        have hb04 : Below wo.heap.size wo w4 := hb3.trans (hb34.mono hb3.size)
        have hnx' : nextT (k % 6) most ys = .error code := by rw [hkk]; exact hnx
        rw [itemsT_no hnx', List.append_nil] at hits
        rw [endT_no hnx'] at hend
        have hE : endC (endT most ks xs) = (code : Int) := by rw [← hend]; rfl
        have HT : Hid (w4.heap[bw]? = some (.cells #[.slice Aw l.length cw] 31 (0, 0)) ∧ w4.ownsRow (bw + 1) 33 3 (.slice Aw l.length cw) l.length (l.flatMap itc) ∧ (∀ t ∈ l, ItBy w4 Aw t) ∧ Below bw w2 w4 ∧ l.map It.key = itemsT most ks xs ∧ l.length ≤ 60) := Lib.hid ⟨(hb04.block bw (by omega)).trans (by rw [hlj]; exact hbwc), by rw [hlj]; exact ownsRow_keep hown fun g _ hl => hb04.block g hl, fun t ht => (hby t ht).keep hb04, hbel.trans (hb04.mono (by omega)), hits, by omega⟩
        have tc1 : decide ((code : Int) = 0) = false := by simp; omega
        have tc2 : (code : Int) ≠ 0 := by omega
        have hn60 : l.length ≤ 60 := by omega
        clear hnx'
        clear hjg hlj hits hend hbwc hown hby hbel hwo hb04 hb34 hb3 HR
        rw [hw4] at hset hzn
        generalize hb12 : w3.heap.size = b12 at hset hzn ⊢
        have HE := Lib.hid hE
        have hbwt := HT.out.1
        have hrowx : RowU8 w4 A0 xs := HW.out.2.2.2.1.below (HW.out.2.2.2.2.2.1.trans (HT.out.2.2.2.1.mono (by have := HW.out; omega)))
        have hst : bw + 1 ≤ w4.heap.size := by have := (Array.getElem?_eq_some_iff.1 hbwt).1; omega
        have HRX := Lib.hid hrowx
        have hbs := run_empty_bytes w4
        have HO := Lib.hid (own_empty w4)
        have HV := Lib.hid (hrowx.below ((Below.refl _ w4).alloc (Nat.le_refl _) (.cells #[] 5))).rowv
        clear hE hrowx hbwt
        go_wp2_with (first
          | (refine wpList_append_rowv _ rfl (.tmp 67) (.tmp 68) 25 rfl w4.heap.size 5 i1 (.int .u8 0) 1 1 Try.underlying25 HJ.out.1 HJ.out.2.1 HJ.out.2.2.1 HJ.out.2.2.2 (by rfl) (by omega) (.slice (some ⟨w4.heap.size, 0, none⟩) 0 0) 0 [] rfl HO.out A0 n0 c0 (u8v xs) rfl HV.out (by rw [u8v_length, HW.out.2.2.2.2.2.2.1, Nat.mul_one]) (u8v_one xs) (by unfold maxLen; omega) (by omega) (by simp) ?_; intro A3 c3 w8 hown8 hgr8)
          | (refine wpList_store_row rfl 33 (.tmp 12) (.tmp 46) rfl b12 33 (item0 0) (item0 0) rfl rfl hzn info_item rfl item0_one ?_; rw [hset]))
        clear hset hzn hzi hw4
        have hn0' := HW.out.2.2.2.2.2.2.1
        obtain ⟨hrow8, hbel8, hfrom8⟩ := copied (bs := xs) (w := w4) (w1 := w4) HRX.out.lt (Below.refl _ _) (by rw [hn0']; exact hown8) hgr8
        have hs8 := hbel8.size
        have hsw : w2.heap.size ≤ w4.heap.size := HT.out.2.2.2.1.size
        have hb28 : Below bw w2 w8 := HT.out.2.2.2.1.trans (hbel8.mono (by omega))
        have hbw8 : Below w.heap.size w w8 := HW.out.2.2.2.2.2.1.trans (hb28.mono (by have := HW.out; omega))
        have hw8 : ∀ k, k < w4.heap.size → w8.heap[k]? = w4.heap[k]? := fun k hk => hbel8.block k hk
        have hctx : AnyCtx w8 most bk (bk + 1) bw (some ⟨b, off, none⟩) c1 ks Aw cw l :=
          ⟨by rw [HW.out.2.2.2.2.2.2.2.1, hb28.block bk (by have := HW.out; omega)]; exact HW.out.1, (hb28.block (bk + 1) (by have := HW.out; omega)).trans HW.out.2.1, (hw8 bw (by omega)).trans HT.out.1,
            HW.out.2.2.2.2.1.below hbw8, ⟨RowV.of_own (ownsRow_keep HT.out.2.1 fun g _ hl => hbel8.block g hl), fun t ht => (HT.out.2.2.1 t ht).1.below hbel8⟩, by rw [HW.out.2.2.2.2.2.2.2.1]; exact hk6, HT.out.2.2.2.2.2⟩
        obtain ⟨q, hq⟩ : ∃ q, w8.heap.size = q := ⟨_, rfl⟩
        have h9n : ((w8.alloc (.cells #[.int .i64 0] 3)).alloc (.cells #[.bool true] 4)).heap[w8.heap.size]? = some (.cells #[.int .i64 0] 3 (0, 0)) := heap_alloc2_old w8 _ _
        have h9o : ((w8.alloc (.cells #[.int .i64 0] 3)).alloc (.cells #[.bool true] 4)).heap[w8.heap.size + 1]? = some (.cells #[.bool true] 4 (0, 0)) := heap_alloc2_new w8 _ _
        have hb89 : Below w8.heap.size w8 ((w8.alloc (.cells #[.int .i64 0] 3)).alloc (.cells #[.bool true] 4)) := ((Below.refl _ _).alloc (Nat.le_refl _) _).alloc (by simp) _
        have hs9 : ((w8.alloc (.cells #[.int .i64 0] 3)).alloc (.cells #[.bool true] 4)).heap.size = w8.heap.size + 2 := by simp
        obtain ⟨W9, hW9⟩ : ∃ W9, (w8.alloc (.cells #[.int .i64 0] 3)).alloc (.cells #[.bool true] 4) = W9 := ⟨_, rfl⟩
        rw [hW9] at h9n h9o hb89 hs9
        have hits := HT.out.2.2.2.2.1
        have HRd := Lib.hid (Read_any (.func 14) 14 rfl #[.pointer (some ⟨bk, 0, none⟩), .pointer (some ⟨bk + 1, 0, none⟩), .pointer (some ⟨q + 1, 0, none⟩), .pointer (some ⟨q, 0, none⟩), .pointer (some ⟨bw, 0, none⟩)] A3 c3 xs W9 (hrow8.below hb89) (by omega)
          (fun ys w1 => endT most ks xs = .ok ys ∧ AnyAt w8 l.length w1) (fun code w1 => ∃ e : Nat, code = (e : Int) ∧ endT most ks xs = .error e ∧ AnyAt w8 l.length w1)
          (fun args w => by kernel_rfl) (fun wz g A' c' hrd hbw hg hA => by
            rw [hs9, hq] at hbw hg hA ⊢
            exact anysF w8 most bk (bk + 1) bw (some ⟨b, off, none⟩) c1 ks Aw cw l hctx xs hits q hq g A' c' wz hrd ⟨(hbw.block _ (by omega)).trans h9n, (hbw.block _ (by omega)).trans h9o, hb89.trans (hbw.mono (by omega))⟩ hg hA))
        rw [hn0'] at HRd
        have HY := Lib.hid (And.intro hrow8 (And.intro hb28 (And.intro hbw8 (And.intro hb89 (And.intro hs9 (And.intro hq (And.intro hctx hsw)))))))
        clear hrow8 hb28 hbw8 hb89 hs9 hctx h9n h9o hits hw8 hbel8 hfrom8 hs8 hn0' hown8 hgr8 hsw
        rw [hW9, hq]
        refine HRd.out.mono ?_
        clear HRd hW9
        rintro e w10 ⟨w11, hos, htape, hout, hsz, hb, hcase⟩
        obtain ⟨rfl, hat⟩ : e = .returned (.int .i64 (endC (endT most ks xs))) ∧ AnyAt w8 l.length w11 := by
          rcases hcase with ⟨zs, rfl, he, hat⟩ | ⟨code, rfl, e', rfl, he, hat⟩
          · exact ⟨by rw [he]; rfl, hat⟩
          · exact ⟨by rw [he]; rfl, hat⟩
        rw [HE.out]
        clear hcase hos htape hout hq
        obtain ⟨hrow8, hb28, hbw8, hb89, hs9, hq, hctx, hsw⟩ := HY.out
        have hs8 := hb28.size
        rw [hs9, hq] at hb hsz
        have hb810 : Below w8.heap.size w8 w10 := hat.below.trans (hb.mono (by omega))
        have hn10 : w10.heap[q]? = some (.cells #[.int .i64 (l.length : Int)] 3 (0, 0)) := (hb.block _ (by omega)).trans (by rw [← hq]; exact hat.hn)
        have ho10 : w10.heap[q + 1]? = some (.cells #[.bool true] 4 (0, 0)) := (hb.block _ (by omega)).trans (by rw [← hq]; exact hat.ho)
        have hw10 := (hb810.block bw (Array.getElem?_eq_some_iff.1 hctx.hw).1).trans hctx.hw
        have cn10 := cell_of_row w10 q 0 _ _ _ hn10
        have co10 := cell_of_row w10 (q + 1) 0 _ _ _ ho10
        have cw10 := cell_of_row w10 bw 0 _ _ _ hw10
        have hc1 := str_of w10 A3 xs (hrow8.below hb810) c3
        have hc2 := str_of w10 A0 xs (HW.out.2.2.2.1.below (hbw8.trans (hb810.mono hbw8.size))) c0
        rw [HW.out.2.2.2.2.2.2.1] at hc1 hc2
        have HB := Lib.hid (hbw8.trans (hb810.mono hbw8.size))
        have hl60 := HT.out.2.2.2.2.2
        clear hrow8 hb28 hbw8 hb89 hs9 hctx hsw hs8 hb hsz hat hb810 hn10 ho10 hw10 HY hq
        generalize l.length = ll at *
        generalize bstr xs = bx at *
        go_wp2_with (fail)
        go_ret
        exact ⟨rfl, HB.out⟩
      | ok s =>
        obtain ⟨⟨N, bs⟩, zs⟩ := s
        rw [hnx] at hp
        obtain ⟨A2, c2, rfl, hbs, hA2⟩ := hp
        obtain ⟨m, hm, hzs⟩ := nextT_suffix hnx
        have hms : ys.length - zs.length = m := by rw [hzs, List.length_drop]; omega
        rw [hms]
        obtain ⟨n, hn⟩ : ∃ n, bs.length = n := ⟨_, rfl⟩
        obtain ⟨ly, hly⟩ : ∃ ly, ys.length = ly := ⟨_, rfl⟩
        obtain ⟨hjg, hlj, hys, hyc, hcb, hy3, hits, hend, hbwc, hown, hby, hbel⟩ := HR.out
        rw [hly] at hm hyc hy3
        rw [hn, hly]
        have hwo : bw + 1 ≤ wo.heap.size := by have := (Array.getElem?_eq_some_iff.1 hbwc).1; omega
        have hs3 := hb3.size
        have hset := setRow_new w3 (item0 0) #[.int .i64 (kk : Int), .int .i64 (N : Int), .slice A2 n c2] 33
        have hzn := heap_alloc_new w3 (.cells (item0 0) 33)
        have hzi := run_zero_item
        obtain ⟨w4, hw4⟩ : ∃ w4, w3.alloc (.cells #[.int .i64 (kk : Int), .int .i64 (N : Int), .slice A2 n c2] 33) = w4 := ⟨_, rfl⟩
        rw [hw4] at hset
        have hx12 : w4.heap[w3.heap.size]? = some (.cells #[.int .i64 (kk : Int), .int .i64 (N : Int), .slice A2 n c2] 33 (0, 0)) := by rw [← hw4]; exact heap_alloc_new w3 _
        have hb34 : Below w3.heap.size w3 w4 := by rw [← hw4]; exact (Below.refl _ w3).alloc (Nat.le_refl _) _
        have hs4 : w4.heap.size = w3.heap.size + 1 := by rw [← hw4]; simp
        have hb04 : Below wo.heap.size wo w4 := hb3.trans (hb34.mono hs3)
        have hbwc4 := (hb04.block bw (by omega)).trans hbwc
        have cw4 := cell_of_row w4 bw 0 _ _ _ hbwc4
        have hown4 := ownsRow_keep hown fun g _ hl => hb04.block g hl
        have HBS := Lib.hid (run_bs_item (kk : Int) (N : Int) A2 n c2 w4)
        obtain ⟨w5, hw5⟩ : ∃ w5, w4.alloc (.cells #[.int .i64 (kk : Int), .int .i64 (N : Int), .slice A2 n c2] 33) = w5 := ⟨_, rfl⟩
        have hb45 : Below w4.heap.size w4 w5 := by rw [← hw5]; exact (Below.refl _ w4).alloc (Nat.le_refl _) _
        have hs5 : w5.heap.size = w4.heap.size + 1 := by rw [← hw5]; simp
        have hrow5 : RowV w5 (some ⟨w4.heap.size, 0, none⟩) [.int .i64 (kk : Int), .int .i64 (N : Int), .slice A2 n c2] := by rw [← hw5]; exact RowV.of_block (heap_alloc_new w4 _) 3
        have hown5 := ownsRow_keep hown4 fun g _ hl => hb45.block g hl
        have hbwc5 := (hb45.block bw (by omega)).trans hbwc4
        rw [hw5] at HBS
        have hit5 : ItBy w5 Aw ⟨kk, N, bs, A2, c2⟩ := by
          refine ⟨hbs.below (hb34.trans (hb45.mono hb34.size)), fun h0 a ha b' hb' e => ?_⟩
          have h1 := hA2 a ha
          have h2 := hown.lt b'.block (by rw [hb']; rfl)
          omega
        have hby5 : ∀ t ∈ l, ItBy w5 Aw t := fun t ht => (hby t ht).keep (hb04.trans (hb45.mono hb04.size))
        have hb25 : Below bw w2 w5 := hbel.trans ((hb04.trans (hb45.mono hb04.size)).mono (by omega))
        have HQ := Lib.hid (And.intro hown5 (And.intro hrow5 (And.intro hbwc5 (And.intro hit5 (And.intro hby5 (And.intro hb25 (And.intro (show bw + 1 ≤ w5.heap.size by omega) (And.intro hn (And.intro hly (And.intro hzs (And.intro hms hnx)))))))))))
        have hjn : j < n1 := by omega
        clear hjg hlj hys hits hend hbwc hown hby hbel hwo hs3 hw4 hb34 hs4 hb04 hbwc4 hown4 hw5 hb45 hs5 hrow5 hown5 hbwc5 hit5 hby5 hb25 hn hly hzs hms hbs hA2 hb3
        generalize hb12 : w3.heap.size = b12 at *
        go_wp2_with (first
          | (refine wpList_store_row rfl 33 (.tmp 12) (.tmp 46) rfl b12 33 (item0 0) #[.int .i64 (kk : Int), .int .i64 (N : Int), .slice A2 n c2] rfl rfl hzn info_item rfl (item_one kk N A2 n c2) ?_; rw [hset])
          | (refine wpList_load_row rfl 33 (.tmp 12) rfl b12 rfl 33 #[.int .i64 (kk : Int), .int .i64 (N : Int), .slice A2 n c2] (0, 0) _ hx12 Try.underlying33 rfl info_item ?_)
          | (refine wpList_bs rfl 31 1 #[(0, .tmp 53)] rfl [(0, .agg #[.int .i64 (kk : Int), .int .i64 (N : Int), .slice A2 n c2])] (by rfl) (.slice (some ⟨w4.heap.size, 0, none⟩) 1 1) w5 HBS.out ?_)
          | (refine wpList_append_rown _ rfl (.tmp 52) (.tmp 54) 31 rfl (bw + 1) 33 i0 (.agg (item0 0)) 3 40 Try.underlying31 HI.out.1 HI.out.2.1 HI.out.2.2.1 HI.out.2.2.2 (by rfl) (by omega) (.slice Aw j cw) j (l.flatMap itc) rfl HQ.out.1 (some ⟨w4.heap.size, 0, none⟩) 1 1 [.int .i64 (kk : Int), .int .i64 (N : Int), .slice A2 n c2] rfl HQ.out.2.1 rfl (by intro u hu; simp only [List.mem_cons, List.not_mem_nil, or_false] at hu; rcases hu with rfl | rfl | rfl <;> rfl) (by unfold maxLen; omega) (by omega) HQ.out.2.2.2.2.2.2.1 ?_; intro A' c' w6 hown' hgr hfrom; have hbw6 := (hgr.block bw (Nat.lt_of_succ_le HQ.out.2.2.2.2.2.2.1) (fun e => absurd (HQ.out.1.lt bw e.symm).1 (Nat.not_succ_le_self bw))).trans HQ.out.2.2.1; have cb6 := cell_of_row w6 bw 0 _ _ _ hbw6; have fb6 := frozen_of_row w6 bw 0 _ _ hbw6; have hlb6 := (Array.getElem?_eq_some_iff.1 hbw6).1; have HZ := Lib.hid (And.intro hown' (And.intro hgr (And.intro hfrom hbw6))); clear hown' hgr hfrom hbw6))
        · rename_i hcm
          go_roundg gj
          case measure => omega
          case rel =>
            obtain ⟨hown', hgr, hfrom, hbw6⟩ := HZ.out
            obtain ⟨hown5, hrow5, hbwc5, hit5, hby5, hb25, hwo, hn, hly, hzs, hms, hnx⟩ := HQ.out
            obtain ⟨hjg, hlj, hys, -, -, -, hits, hend, hbwc, hown, hby, hbel⟩ := HR.out
            have hk7 : ∀ g, g ≠ bw → (w6.setCell ⟨bw, 0, none⟩ (.slice A' (j + 1) c')).heap[g]? = w6.heap[g]? := fun g hg => heap_setCell_other _ _ _ _ hg
            have hb26 : Below bw w2 w6 := hb25.grown hgr (by omega) (fun i hi => by have := (hown5.lt i hi).1; omega)
            have hb27 : Below bw w2 (w6.setCell ⟨bw, 0, none⟩ (.slice A' (j + 1) c')) := hb26.setCell (Nat.le_refl _) _
            have hys7 : RowU8 w A zs := by
              have : zs = [] := by rw [hzs]; exact List.drop_eq_nil_of_le (by omega)
              rw [this]; exact row_nil _ _
            subst hkk
            rw [itemsT_ok hnx] at hits
            rw [endT_ok hnx] at hend
            have hzl : zs.length = ly - m := by rw [hzs, List.length_drop, hly]
            refine ⟨j + 1, l ++ [⟨k % 6, N, bs, A2, c2⟩], zs, _, _, A', c', by omega, by go_num, rfl, by rw [hzl], by simp [hlj], hys7, by omega, by omega, by omega, ?_, hend, ?_, ?_, ?_, hb27⟩
            · rw [← hits, List.map_append, List.append_assoc]; rfl
            · rw [show (l ++ [(⟨k % 6, N, bs, A2, c2⟩ : It)]).length = j + 1 by simp [hlj]]
              exact heap_setCell_same _ _ _ _ _ _ hbw6
            · rw [show (l ++ [(⟨k % 6, N, bs, A2, c2⟩ : It)]).length = j + 1 by simp [hlj], List.flatMap_append]
              refine ownsRow_keep ?_ (fun g hg _ => hk7 g (by omega))
              have : [(⟨k % 6, N, bs, A2, c2⟩ : It)].flatMap itc = [.int .i64 ((k % 6 : Nat) : Int), .int .i64 (N : Int), .slice A2 n c2] := by simp [itc, hn]
              rw [this]
              exact hown'
            · intro t ht
              rcases List.mem_append.1 ht with h1 | h1
              · exact (((hby5 t h1).next hgr hfrom).set hbw6 _)
              · obtain rfl := List.mem_singleton.1 h1
                exact ((hit5.next hgr hfrom).set hbw6 _)
        · rename_i hcm
          go_roundg gj
          case measure => omega
          case rel =>
            obtain ⟨hown', hgr, hfrom, hbw6⟩ := HZ.out
            obtain ⟨hown5, hrow5, hbwc5, hit5, hby5, hb25, hwo, hn, hly, hzs, hms, hnx⟩ := HQ.out
            obtain ⟨hjg, hlj, hys, -, -, -, hits, hend, hbwc, hown, hby, hbel⟩ := HR.out
            have hk7 : ∀ g, g ≠ bw → (w6.setCell ⟨bw, 0, none⟩ (.slice A' (j + 1) c')).heap[g]? = w6.heap[g]? := fun g hg => heap_setCell_other _ _ _ _ hg
            have hb26 : Below bw w2 w6 := hb25.grown hgr (by omega) (fun i hi => by have := (hown5.lt i hi).1; omega)
            have hb27 : Below bw w2 (w6.setCell ⟨bw, 0, none⟩ (.slice A' (j + 1) c')) := hb26.setCell (Nat.le_refl _) _
            have hys7 : RowU8 w (A.map (·.add m)) zs := by
              have := hys.sub m (ys.length - m)
              rwa [List.take_of_length_le (by rw [List.length_drop]; exact Nat.le_refl _), ← hzs] at this
            subst hkk
            rw [itemsT_ok hnx] at hits
            rw [endT_ok hnx] at hend
            have hzl : zs.length = ly - m := by rw [hzs, List.length_drop, hly]
            refine ⟨j + 1, l ++ [⟨k % 6, N, bs, A2, c2⟩], zs, _, _, A', c', by omega, by go_num, rfl, by rw [hzl], by simp [hlj], hys7, by omega, by omega, by omega, ?_, hend, ?_, ?_, ?_, hb27⟩
            · rw [← hits, List.map_append, List.append_assoc]; rfl
            · rw [show (l ++ [(⟨k % 6, N, bs, A2, c2⟩ : It)]).length = j + 1 by simp [hlj]]
              exact heap_setCell_same _ _ _ _ _ _ hbw6
            · rw [show (l ++ [(⟨k % 6, N, bs, A2, c2⟩ : It)]).length = j + 1 by simp [hlj], List.flatMap_append]
              refine ownsRow_keep ?_ (fun g hg _ => hk7 g (by omega))
              have : [(⟨k % 6, N, bs, A2, c2⟩ : It)].flatMap itc = [.int .i64 ((k % 6 : Nat) : Int), .int .i64 (N : Int), .slice A2 n c2] := by simp [itc, hn]
              rw [this]
              exact hown'
            · intro t ht
              rcases List.mem_append.1 ht with h1 | h1
              · exact (((hby5 t h1).next hgr hfrom).set hbw6 _)
              · obtain rfl := List.mem_singleton.1 h1
                exact ((hit5.next hgr hfrom).set hbw6 _)

theorem anys_walk (A0 : Option Addr) (c0 : Nat) (xs : List Nat) (A1 : Option Addr) (c1 : Nat) (ks : List Nat) (most : Int) (w : World)
    (hx : RowU8 w A0 xs ∧ xs.length ≤ 9223372036854775807 ∧ xs.length ≤ c0 ∧ c0 ≤ 9223372036854775807) (hk : RowU8 w A1 ks ∧ ks.length ≤ 9223372036854775807) (_ : -9223372036854775808 ≤ most ∧ most ≤ 9223372036854775807) :
    Calls Try.prog 4 #[.slice A0 xs.length c0, .slice A1 ks.length c1, .int .i64 most] w fun e w' => e = .returned (.bool true) ∧ Below w.heap.size w w' := by
  by_cases h : 300 < xs.length ∨ 60 < ks.length
  · exact anys_long A0 c0 _ A1 c1 _ most w h
  · exact anys_short A0 c0 xs A1 c1 ks most w hx.1 hk.1 (by omega) (by omega) hx.2.2.1 hx.2.2.2

end Go.Proofs.Ytbbnmfdhpepdnaa
