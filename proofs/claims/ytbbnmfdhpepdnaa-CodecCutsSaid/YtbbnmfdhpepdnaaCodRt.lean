/-
  right: items that may be.
-/
import Derived.Test.YtbbnmfdhpepdnaaCodAl
import Derived.Test.YtbbnmfdhpepdnaaCodP
import Derived.Laws.CopyOwn
namespace Go.Proofs.Ytbbnmfdhpepdnaa
open Go.RowKit

/-- an item as it came in -/
structure Jt where
  k : Int
  N : Int
  bs : List Nat
  A : Option Addr
  c : Nat
def jtc (t : Jt) : List Value := [.int .i64 t.k, .int .i64 t.N, .slice t.A t.bs.length t.c]
theorem jtc_length (t : Jt) : (jtc t).length = 3 := rfl
def Jok (w : World) (t : Jt) : Prop := RowU8 w t.A t.bs ∧ t.bs.length ≤ t.c ∧ t.c ≤ 9223372036854775807 ∧ (-9223372036854775808 ≤ t.k ∧ t.k ≤ 9223372036854775807) ∧ -9223372036854775808 ≤ t.N ∧ t.N ≤ 9223372036854775807
structure JtAt (w : World) (A : Option Addr) (l : List Jt) : Prop where
  row : RowV w A (l.flatMap jtc)
  each : ∀ t ∈ l, Jok w t
theorem JtAt.keep {w w' : World} {A : Option Addr} {l : List Jt} (h : JtAt w A l) (hb : Below w.heap.size w w') : JtAt w' A l := ⟨h.row.keep hb, fun t ht => ⟨(h.each t ht).1.below hb, (h.each t ht).2⟩⟩
theorem jts_length (l : List Jt) : (l.flatMap jtc).length = 3 * l.length := by
  induction l with
  | nil => rfl
  | cons t l ih => rw [List.flatMap_cons, List.length_append, jtc_length, ih, List.length_cons]; omega
theorem jts_get : ∀ (l : List Jt) (k j : Nat) (t : Jt), l[k]? = some t → j < 3 → (l.flatMap jtc)[3 * k + j]? = (jtc t)[j]?
  | [], k, j, t, h, _ => by simp at h
  | s :: l, 0, j, t, h, hj => by
    obtain rfl : s = t := by simpa using h
    rw [List.flatMap_cons, List.getElem?_append_left (by rw [jtc_length]; omega), Nat.mul_zero, Nat.zero_add]
  | s :: l, k + 1, j, t, h, hj => by
    rw [List.flatMap_cons, List.getElem?_append_right (by rw [jtc_length]; omega), jtc_length, show 3 * (k + 1) + j - 3 = 3 * k + j by omega]
    exact jts_get l k j t (by simpa using h) hj
theorem JtAt.range {w : World} {A : Option Addr} {l : List Jt} (h : JtAt w A l) {k : Nat} {t : Jt} (ht : l[k]? = some t) : ∃ b off, A = some ⟨b, off, none⟩ ∧ w.rangeAt b (off + k * 3) (jtc t) := by
  have hk : k < l.length := (List.getElem?_eq_some_iff.1 ht).1
  obtain ⟨b, off, e, hc⟩ := h.row.form (by rw [jts_length]; omega)
  refine ⟨b, off, e, fun j v hv => ?_⟩
  have hj : j < 3 := (List.getElem?_eq_some_iff.1 hv).1
  have := hc (3 * k + j) (by rw [jts_length]; omega)
  rw [jts_get l k j t ht hj, hv] at this
  rw [← this]
  congr 2
  omega

/-- what right leaves -/
def RtPost (w : World) (e : Ending) (w' : World) : Prop :=
  ∃ (out : List It) (A : Option Addr) (c : Nat), e = .returned (.slice A out.length c) ∧ out.length ≤ 30 ∧ w'.ownsRow w.heap.size 33 3 (.slice A out.length c) out.length (out.flatMap itc) ∧
    (∀ t ∈ out, ItBy w' A t ∧ OkI t.k t.N t.bs) ∧ Below w.heap.size w w'

theorem right_next {w wo w3 w5 : World} {out : List It} {A A' : Option Addr} {c c' j : Nat} {t : It} (hoj : out.length = j) (hown : wo.ownsRow w.heap.size 33 3 (.slice A j c) j (out.flatMap itc))
    (hby : ∀ t ∈ out, ItBy wo A t ∧ OkI t.k t.N t.bs) (hbel : Below w.heap.size w wo) (hb03 : Below wo.heap.size wo w3) (hrow : RowU8 w3 t.A t.bs) (hA : ∀ a, t.A = some a → wo.heap.size ≤ a.block) (hok : OkI t.k t.N t.bs)
    (hown5 : w5.ownsRow w.heap.size 33 3 (.slice A' (j + 1) c') (j + 1) (out.flatMap itc ++ itc t)) (hgr : (w3.alloc (.cells (itc t).toArray 33)).grownBy w5 (Value.slice A j c).ownBlock)
    (hfrom : ∀ a, A' = some a → (Value.slice A j c).ownBlock = some a.block ∨ (w3.alloc (.cells (itc t).toArray 33)).heap.size ≤ a.block) :
    (out ++ [t]).length = j + 1 ∧ w5.ownsRow w.heap.size 33 3 (.slice A' (j + 1) c') (j + 1) ((out ++ [t]).flatMap itc) ∧ (∀ t' ∈ out ++ [t], ItBy w5 A' t' ∧ OkI t'.k t'.N t'.bs) ∧ Below w.heap.size w w5 := by
  have hb34 : Below w3.heap.size w3 (w3.alloc (.cells (itc t).toArray 33)) := (Below.refl _ _).alloc (Nat.le_refl _) _
  have hb04 := hb03.trans (hb34.mono hb03.size)
  refine ⟨by simp [hoj], by simpa [List.flatMap_append] using hown5, fun t' ht' => ?_, ?_⟩
  · rcases List.mem_append.1 ht' with h1 | h1
    · exact ⟨((hby t' h1).1.keep hb04).next hgr hfrom, (hby t' h1).2⟩
    · obtain rfl := List.mem_singleton.1 h1
      refine ⟨ItBy.next ⟨hrow.below hb34, fun h0 a ha b hb e => ?_⟩ hgr hfrom, hok⟩
      have h1 := hA a ha
      have h2 := hown.lt b.block (by rw [hb]; rfl)
      omega
  · exact (hbel.trans (hb04.mono hbel.size)).grown hgr (by have := hbel.size; have := hb04.size; omega) (fun i hi => (hown.lt i hi).1)
theorem and_one (N : Int) : ∃ v : Nat, v ≤ 1 ∧ bits .and .i64 N 1 = (v : Int) := by
  refine ⟨(BitVec.ofInt 64 N).toNat % 2, by omega, ?_⟩
  have h2 : (BitVec.ofInt 64 1).toNat = 1 := by decide
  show IntKind.i64.wrap ((BitVec.ofInt 64 N &&& BitVec.ofInt 64 1).toNat : Int) = _
  rw [BitVec.toNat_and, h2, Nat.and_one_is_mod, IntKind.wrap_i64]
  omega
theorem wp_copy_splice {P : Program} {o : Oper} {a : Act} {w : World} {K : Act → World → Prop} {Q : Exit → Act → World → Prop} (hgd : o.guard = none) (d s : Operand) (dT sT : TypeId)
    (ho : o.op = .call { callee := .builtin .copy, args := #[d, s], argTypes := #[dT, sT] }) (elem : TypeId) (hu : P.underlying dT = some (.slice elem)) (hsz : (P.info? elem).map (·.size) = some 1)
    (dp sp : Option Addr) (dLen dCap sLen sCap : Nat) (hd : a.eval d = .slice dp dLen dCap) (hs : a.eval s = .slice sp sLen sCap)
    (g off : Nat) (cur : List Value) (t : TypeId) (hg : w.heap[g]? = some (.cells cur.toArray t (0, 0))) (cs : List Value) (hn : cs.length = Nat.min sLen dLen)
    (hpos : 0 < cs.length → dp = some ⟨g, off, none⟩ ∧ ∃ ad, sp = some ad ∧ ∀ j v, cs[j]? = some v → w.cell? (ad.add j) = some v)
    (hfit : off + cs.length ≤ cur.length) (h1 : ∀ v ∈ cs, v.oneCell' = true) (B : Nat) (w0 : World) (hb : Below B w0 w) (hBg : B ≤ g)
    (h : ∀ w', Hid (w'.heap[g]? = some (.cells (splice cur off cs).toArray t (0, 0))) → Below B w0 w' → K (a.put o.dst (goInt cs.length)) w') : Oper.wp P o a w K Q := by
  have h9 := step_copy_splice (P := P) (ops := #[]) (Q := Q) (E := True) hgd d s dT sT ho elem hu hsz dp sp dLen dCap sLen sCap hd hs g off cur t hg cs hn hpos hfit h1 B w0 hb hBg h
  rwa [if_pos (by simp [Region.wanted, hgd])] at h9
theorem run_build_digest (w : World) : (Instr.build 60 #[]).run Try.prog w = .ok (.agg z32) w := by kernel_rfl
theorem kind6 (K0 : Int) : ∃ k : Nat, k < 6 ∧ (wrap64 (K0.tmod 6 + 6)).tmod 6 = (k : Int) := by
  have h1 : -6 < K0.tmod 6 := Int.lt_tmod_of_pos K0 (by decide)
  have h2 : K0.tmod 6 < 6 := Int.tmod_lt_of_pos K0 (by decide)
  rw [IntWalk.wrap64_in _ ⟨by omega, by omega⟩]
  obtain ⟨m, hm⟩ : ∃ m : Nat, K0.tmod 6 + 6 = (m : Int) := ⟨(K0.tmod 6 + 6).toNat, by omega⟩
  rw [hm]
  refine ⟨m % 6, Nat.mod_lt _ (by decide), ?_⟩
  rw [Int.tmod_eq_emod_of_nonneg (by omega)]
  omega

set_option maxRecDepth 100000 in
set_option maxHeartbeats 4000000 in
theorem right_any (A0 : Option Addr) (c0 : Nat) (l : List Jt) (w : World) (h : JtAt w A0 l) (hm : l.length ≤ 9223372036854775807) :
    Calls Try.prog 17 #[.slice A0 l.length c0] w (RtPost w) := by
  obtain ⟨i0, hi, hi0, hi1, hi2⟩ := info_parts info_items
  have HI := Lib.hid (And.intro hi (And.intro hi0 (And.intro hi1 hi2)))
  obtain ⟨i1, hj, hj0, hj1, hj2⟩ := info_parts info_byte
  have HJ := Lib.hid (And.intro hj (And.intro hj0 (And.intro hj1 hj2)))
  clear hi hi0 hi1 hi2 hj hj0 hj1 hj2
  obtain ⟨n, hn⟩ : ∃ n, l.length = n := ⟨_, rfl⟩
  have HL := Lib.hid hn
  have HX := Lib.hid h
  rw [hn] at hm ⊢
  clear h hn
  go_enter Try.func17, Try.ntmps17
  go_wp2_with (fail)
  go_loopg [3, 4, 5, 6, 7, 8, 11, 36, 43, 49] n (fun gk s3 s4 s5 s6 s7 s8 s11 s36 s43 s49 wx => ∃ (j : Nat) (out : List It) (A : Option Addr) (c : Nat), j + gk = n ∧ s11 = .int .i64 (j : Int) ∧ s3 = .slice A out.length c ∧ out.length = j ∧ j ≤ 30 ∧
    wx.ownsRow w.heap.size 33 3 (.slice A j c) j (out.flatMap itc) ∧ (∀ t ∈ out, ItBy wx A t ∧ OkI t.k t.N t.bs) ∧ Below w.heap.size w wx)
  case atStart => exact ⟨0, [], none, 0, by omega, rfl, rfl, rfl, by omega, World.ownsRow_nil _ _ _ _, by simp, Below.refl _ _⟩
  case round =>
    obtain ⟨j, out, A, c, hjg, rfl, rfl, hoj, hj30, hown, hby, hbel⟩ := hrel
    rw [hoj]
    cases gk with
    | zero =>
      obtain rfl : j = n := by omega
      have hkz : ¬ ((j : Int) < (j : Int)) := by omega
      have HZ := Lib.hid (And.intro hoj (And.intro hown (And.intro hby hbel)))
      clear hown hby hbel hoj hjg
      go_wp2_with (fail)
      go_ret
      exact ⟨out, A, c, by rw [HZ.out.1]; rfl, by rw [HZ.out.1]; omega, by rw [HZ.out.1]; exact HZ.out.2.1, HZ.out.2.2.1, HZ.out.2.2.2⟩
    | succ gj =>
      obtain ⟨wo, rfl⟩ : ∃ wo : World, wo = wr := ⟨_, rfl⟩
      have hlt : (j : Int) < (n : Int) := by omega
      obtain ⟨t, ht⟩ : ∃ t, l[j]? = some t := ⟨l[j]'(by rw [HL.out]; omega), List.getElem?_eq_getElem _⟩
      have hjt := (HX.out.keep hbel).each t (List.mem_of_getElem? ht)
      obtain ⟨b, off, e1, hrg⟩ := (HX.out.keep hbel).range ht
      obtain ⟨K0, N0, bs, At, ct⟩ := t
      obtain ⟨hrow, hlc, hcb, hKb, hNb⟩ := hjt
      simp only [jtc] at hrg
      dsimp only at hrow hlc hcb hKb hNb
      obtain ⟨m, hmb⟩ : ∃ m, bs.length = m := ⟨_, rfl⟩
      rw [hmb] at hrg hlc
      subst e1
      have hset := setRow_new wo (item0 0) #[.int .i64 K0, .int .i64 N0, .slice At m ct] 33
      have hzn := heap_alloc_new wo (.cells (item0 0) 33)
      have hzi := run_zero_item
      obtain ⟨w1, hw1⟩ : ∃ w1, wo.alloc (.cells #[.int .i64 K0, .int .i64 N0, .slice At m ct] 33) = w1 := ⟨_, rfl⟩
      have hb01 : Below wo.heap.size wo w1 := by rw [← hw1]; exact (Below.refl _ _).alloc (Nat.le_refl _) _
      have hx1 : w1.heap[wo.heap.size]? = some (.cells #[.int .i64 K0, .int .i64 N0, .slice At m ct] 33 (0, 0)) := by rw [← hw1]; exact heap_alloc_new wo _
      rw [hw1] at hset
      have hs1 : w1.heap.size = wo.heap.size + 1 := by rw [← hw1]; simp
      have a0 := cell_of_row w1 wo.heap.size 0 _ _ _ hx1
      have HW := Lib.hid (And.intro hown (And.intro hby (And.intro hbel (And.intro hrow (And.intro hmb (And.intro hb01 (And.intro hx1 (And.intro hs1 (And.intro hoj (And.intro hjg hbel.size))))))))))
      clear hown hby hbel hrow hmb hb01 hx1 hs1 hoj hjg hw1 ht
      by_cases h30 : j = 30
      · subst h30
        generalize hbx : wo.heap.size = bx at hset hzn a0 ⊢
        go_wp2_with (first
          | (refine wpList_load_mid rfl 33 (.tmp 14) rfl b (off + 30 * 3) rfl [.int .i64 K0, .int .i64 N0, .slice At m ct] _ hrg Try.underlying33 rfl info_item ?_)
          | (refine wpList_store_row rfl 33 (.tmp 5) (.tmp 15) rfl bx 33 (item0 0) #[.int .i64 K0, .int .i64 N0, .slice At m ct] rfl rfl hzn info_item rfl (item_one K0 N0 At m ct) ?_; rw [hset]))
        go_ret
        obtain ⟨hown, hby, hbel, hrow, hmb, hb01, hx1, hs1, hoj, hjg, hsz⟩ := HW.out
        exact ⟨out, A, c, by rw [hoj]; rfl, by omega, by rw [hoj]; exact ownsRow_keep hown fun g _ hl => hb01.block g hl, fun t ht => ⟨((hby t ht).1).keep hb01, (hby t ht).2⟩, hbel.trans (hb01.mono hsz)⟩
      · have hj29 : decide ((j : Int) = 30) = false := by simp; omega
        obtain ⟨k, hk6, hK⟩ := kind6 K0
        have b1 := cell_of_row w1 wo.heap.size 1 _ _ _ HW.out.2.2.2.2.2.2.1
        have b2 := cell_of_row w1 wo.heap.size 2 _ _ _ HW.out.2.2.2.2.2.2.1
        have hbxl := (Array.getElem?_eq_some_iff.1 HW.out.2.2.2.2.2.2.1).1
        generalize hbx : wo.heap.size = bx at hset hzn a0 b1 b2 hbxl ⊢
        generalize hby_ : w1.heap.size = by_
        rcases k with _ | _ | _ | _ | _ | _ | k
        · replace hK : (wrap64 (K0.tmod 6 + 6)).tmod 6 = (0 : Int) := by rw [hK]; rfl
          have hset2 := setRow_new w1 (item0 0) #[.int .i64 0, .int .i64 0, .slice none 0 0] 33
          have hzn2 := heap_alloc_new w1 (.cells (item0 0) 33)
          obtain ⟨w2, hw2⟩ : ∃ w2, w1.alloc (.cells #[.int .i64 0, .int .i64 0, .slice none 0 0] 33) = w2 := ⟨_, rfl⟩
          have hb12 : Below w1.heap.size w1 w2 := by rw [← hw2]; exact (Below.refl _ _).alloc (Nat.le_refl _) _
          have hx2 : w2.heap[w1.heap.size]? = some (.cells #[.int .i64 0, .int .i64 0, .slice none 0 0] 33 (0, 0)) := by rw [← hw2]; exact heap_alloc_new w1 _
          have hs2 : w2.heap.size = w1.heap.size + 1 := by rw [← hw2]; simp
          rw [hw2] at hset2
          have d1 := (hb12.cell (p := ⟨bx, 1, none⟩) hbxl).trans b1
          have d2 := (hb12.cell (p := ⟨bx, 2, none⟩) hbxl).trans b2
          have hb02 : Below wo.heap.size wo w2 := HW.out.2.2.2.2.2.1.trans (hb12.mono HW.out.2.2.2.2.2.1.size)
          have hbyo : wo.heap.size ≤ w1.heap.size := HW.out.2.2.2.2.2.1.size
          rw [hby_] at hset2 hzn2 hx2 hbyo hs2
          have y1 := cell_of_row w2 by_ 1 _ _ _ hx2
          have y2 := cell_of_row w2 by_ 2 _ _ _ hx2
          have f1 := frozen_of_row w2 by_ 1 _ _ hx2
          have f2 := frozen_of_row w2 by_ 2 _ _ hx2
          have hyl := (Array.getElem?_eq_some_iff.1 hx2).1
          clear hb12 hw2
          by_cases hneg : N0 < 0
          · obtain ⟨w3, hw3⟩ : ∃ w3, w2.setCell ⟨by_, 1, none⟩ (.int .i64 0) = w3 := ⟨_, rfl⟩
            have hx3' : w3.heap[by_]? = some (.cells #[.int .i64 0, .int .i64 0, .slice none 0 0] 33 (0, 0)) := by rw [← hw3]; exact heap_setCell_same w2 by_ 1 _ _ _ hx2
            have hb23 : Below wo.heap.size wo w3 := by rw [← hw3]; exact hb02.setCell hbyo _
            have HT : Hid (w3.heap[by_]? = some (.cells #[.int .i64 0, .int .i64 0, .slice none 0 0] 33 (0, 0)) ∧ Below wo.heap.size wo w3 ∧ RowU8 w3 none [] ∧ (∀ a, (none : Option Addr) = some a → wo.heap.size ≤ a.block) ∧ OkI 0 0 [] ∧ ([] : List Nat).length = 0) := Lib.hid ⟨hx3', hb23, row_nil _ _, (fun a ha => by cases ha), ⟨by decide, by omega, by omega, by omega, by decide, by simp, by simp, by simp⟩, rfl⟩
            clear hx3' hb23 hx2 hb02 hbyo hs2
            have HBS0 := run_bs_item 0 0 none 0 0 w3
            obtain ⟨w4, hw4⟩ : ∃ w4, w3.alloc (.cells #[.int .i64 0, .int .i64 0, .slice none 0 0] 33) = w4 := ⟨_, rfl⟩
            have HW4 := Lib.hid hw4
            have hb34 : Below w3.heap.size w3 w4 := by rw [← hw4]; exact (Below.refl _ w3).alloc (Nat.le_refl _) _
            have hrow4 : RowV w4 (some ⟨w3.heap.size, 0, none⟩) [.int .i64 0, .int .i64 0, .slice none 0 0] := by rw [← hw4]; exact RowV.of_block (heap_alloc_new w3 _) 3
            rw [hw4] at HBS0
            have HBS := Lib.hid HBS0
            have HQ := Lib.hid (And.intro (ownsRow_keep HW.out.1 fun g _ hl => (HT.out.2.1.trans (hb34.mono HT.out.2.1.size)).block g hl) (And.intro hrow4 (Nat.le_trans HW.out.2.2.2.2.2.2.2.2.2.2 (Nat.le_trans HT.out.2.1.size hb34.size))))
            have hx3 := HT.out.1
            clear HBS0 hb34 hrow4 hw4
            go_wp2_with (first
              | (refine wpList_load_mid rfl 33 (.tmp 14) rfl b (off + j * 3) rfl [.int .i64 K0, .int .i64 N0, .slice At m ct] _ hrg Try.underlying33 rfl info_item ?_)
              | (refine wpList_store_row rfl 33 (.tmp 5) (.tmp 15) rfl bx 33 (item0 0) #[.int .i64 K0, .int .i64 N0, .slice At m ct] rfl rfl hzn info_item rfl (item_one K0 N0 At m ct) ?_; rw [hset])
              | (refine wpList_store_row rfl 33 (.tmp 7) (.tmp 24) rfl by_ 33 (item0 0) #[.int .i64 0, .int .i64 0, .slice none 0 0] rfl rfl hzn2 info_item rfl (item_one 0 0 none 0 0) ?_; rw [hset2])
              | (refine wpList_load_row rfl 33 (.tmp 7) rfl by_ rfl 33 #[.int .i64 0, .int .i64 0, .slice none 0 0] (0, 0) _ hx3 Try.underlying33 rfl info_item ?_)
              | (refine wpList_bs rfl 31 1 #[(0, .tmp 59)] rfl [(0, .agg #[.int .i64 0, .int .i64 0, .slice none 0 0])] (by rfl) (.slice (some ⟨w3.heap.size, 0, none⟩) 1 1) w4 HBS.out ?_)
              | (refine wpList_append_rown _ rfl (.tmp 58) (.tmp 60) 31 rfl w.heap.size 33 i0 (.agg (item0 0)) 3 40 Try.underlying31 HI.out.1 HI.out.2.1 HI.out.2.2.1 HI.out.2.2.2 (by rfl) (by omega) (.slice A j c) j (out.flatMap itc) rfl HQ.out.1 (some ⟨w3.heap.size, 0, none⟩) 1 1 [.int .i64 0, .int .i64 0, .slice none 0 0] rfl HQ.out.2.1 rfl (by intro u hu; simp only [List.mem_cons, List.not_mem_nil, or_false] at hu; rcases hu with rfl | rfl | rfl <;> rfl) (by unfold maxLen; omega) (by omega) HQ.out.2.2 ?_; intro A' c' w5 hown5 hgr5 hfrom5; have HZ := Lib.hid (And.intro hown5 (And.intro hgr5 hfrom5)); clear hown5 hgr5 hfrom5))
            go_roundg gj
            case measure => omega
            case rel =>
              obtain ⟨hown, hby, hbel, hrow, hmb, hb01, hx1, hs1, hoj, hjg, hsz⟩ := HW.out
              obtain ⟨hown5, hgr5, hfrom5⟩ := HZ.out
              obtain ⟨hx3, hb03, hr3, hA3, hok3, hl3⟩ := HT.out
              have hw4 := HW4.out
              subst hw4
              obtain ⟨r1, r2, r3, r4⟩ := right_next (t := ⟨0, 0, [], none, 0⟩) hoj hown hby hbel hb03 hr3 hA3 hok3 (by simp only [itc]; rw [hl3]; exact hown5) (by simp only [itc]; rw [hl3]; exact hgr5) (by simp only [itc]; rw [hl3]; exact hfrom5)
              exact ⟨j + 1, _, A', c', by omega, by go_num, by rw [r1], r1, by omega, r2, r3, r4⟩
          · obtain ⟨v, rfl⟩ : ∃ v : Nat, N0 = (v : Int) := ⟨N0.toNat, by omega⟩
            obtain ⟨w3, hw3⟩ : ∃ w3, w2.setCell ⟨by_, 1, none⟩ (.int .i64 (v : Int)) = w3 := ⟨_, rfl⟩
            have hx3' : w3.heap[by_]? = some (.cells #[.int .i64 0, .int .i64 (v : Int), .slice none 0 0] 33 (0, 0)) := by rw [← hw3]; exact heap_setCell_same w2 by_ 1 _ _ _ hx2
            have hb23 : Below wo.heap.size wo w3 := by rw [← hw3]; exact hb02.setCell hbyo _
            have HT : Hid (w3.heap[by_]? = some (.cells #[.int .i64 0, .int .i64 (v : Int), .slice none 0 0] 33 (0, 0)) ∧ Below wo.heap.size wo w3 ∧ RowU8 w3 none [] ∧ (∀ a, (none : Option Addr) = some a → wo.heap.size ≤ a.block) ∧ OkI 0 v [] ∧ ([] : List Nat).length = 0) := Lib.hid ⟨hx3', hb23, row_nil _ _, (fun a ha => by cases ha), ⟨by decide, by omega, by omega, by omega, by decide, by simp, by simp, by simp⟩, rfl⟩
            clear hx3' hb23 hx2 hb02 hbyo hs2
            have HBS0 := run_bs_item 0 (v : Int) none 0 0 w3
            obtain ⟨w4, hw4⟩ : ∃ w4, w3.alloc (.cells #[.int .i64 0, .int .i64 (v : Int), .slice none 0 0] 33) = w4 := ⟨_, rfl⟩
            have HW4 := Lib.hid hw4
            have hb34 : Below w3.heap.size w3 w4 := by rw [← hw4]; exact (Below.refl _ w3).alloc (Nat.le_refl _) _
            have hrow4 : RowV w4 (some ⟨w3.heap.size, 0, none⟩) [.int .i64 0, .int .i64 (v : Int), .slice none 0 0] := by rw [← hw4]; exact RowV.of_block (heap_alloc_new w3 _) 3
            rw [hw4] at HBS0
            have HBS := Lib.hid HBS0
            have HQ := Lib.hid (And.intro (ownsRow_keep HW.out.1 fun g _ hl => (HT.out.2.1.trans (hb34.mono HT.out.2.1.size)).block g hl) (And.intro hrow4 (Nat.le_trans HW.out.2.2.2.2.2.2.2.2.2.2 (Nat.le_trans HT.out.2.1.size hb34.size))))
            have hx3 := HT.out.1
            clear HBS0 hb34 hrow4 hw4
            go_wp2_with (first
              | (refine wpList_load_mid rfl 33 (.tmp 14) rfl b (off + j * 3) rfl [.int .i64 K0, .int .i64 (v : Int), .slice At m ct] _ hrg Try.underlying33 rfl info_item ?_)
              | (refine wpList_store_row rfl 33 (.tmp 5) (.tmp 15) rfl bx 33 (item0 0) #[.int .i64 K0, .int .i64 (v : Int), .slice At m ct] rfl rfl hzn info_item rfl (item_one K0 (v : Int) At m ct) ?_; rw [hset])
              | (refine wpList_store_row rfl 33 (.tmp 7) (.tmp 24) rfl by_ 33 (item0 0) #[.int .i64 0, .int .i64 0, .slice none 0 0] rfl rfl hzn2 info_item rfl (item_one 0 0 none 0 0) ?_; rw [hset2])
              | (refine wpList_load_row rfl 33 (.tmp 7) rfl by_ rfl 33 #[.int .i64 0, .int .i64 (v : Int), .slice none 0 0] (0, 0) _ hx3 Try.underlying33 rfl info_item ?_)
              | (refine wpList_bs rfl 31 1 #[(0, .tmp 59)] rfl [(0, .agg #[.int .i64 0, .int .i64 (v : Int), .slice none 0 0])] (by rfl) (.slice (some ⟨w3.heap.size, 0, none⟩) 1 1) w4 HBS.out ?_)
              | (refine wpList_append_rown _ rfl (.tmp 58) (.tmp 60) 31 rfl w.heap.size 33 i0 (.agg (item0 0)) 3 40 Try.underlying31 HI.out.1 HI.out.2.1 HI.out.2.2.1 HI.out.2.2.2 (by rfl) (by omega) (.slice A j c) j (out.flatMap itc) rfl HQ.out.1 (some ⟨w3.heap.size, 0, none⟩) 1 1 [.int .i64 0, .int .i64 (v : Int), .slice none 0 0] rfl HQ.out.2.1 rfl (by intro u hu; simp only [List.mem_cons, List.not_mem_nil, or_false] at hu; rcases hu with rfl | rfl | rfl <;> rfl) (by unfold maxLen; omega) (by omega) HQ.out.2.2 ?_; intro A' c' w5 hown5 hgr5 hfrom5; have HZ := Lib.hid (And.intro hown5 (And.intro hgr5 hfrom5)); clear hown5 hgr5 hfrom5))
            go_roundg gj
            case measure => omega
            case rel =>
              obtain ⟨hown, hby, hbel, hrow, hmb, hb01, hx1, hs1, hoj, hjg, hsz⟩ := HW.out
              obtain ⟨hown5, hgr5, hfrom5⟩ := HZ.out
              obtain ⟨hx3, hb03, hr3, hA3, hok3, hl3⟩ := HT.out
              have hw4 := HW4.out
              subst hw4
              obtain ⟨r1, r2, r3, r4⟩ := right_next (t := ⟨0, v, [], none, 0⟩) hoj hown hby hbel hb03 hr3 hA3 hok3 (by simp only [itc]; rw [hl3]; exact hown5) (by simp only [itc]; rw [hl3]; exact hgr5) (by simp only [itc]; rw [hl3]; exact hfrom5)
              exact ⟨j + 1, _, A', c', by omega, by go_num, by rw [r1], r1, by omega, r2, r3, r4⟩
        · replace hK : (wrap64 (K0.tmod 6 + 6)).tmod 6 = (1 : Int) := by rw [hK]; rfl
          have hset2 := setRow_new w1 (item0 0) #[.int .i64 1, .int .i64 0, .slice none 0 0] 33
          have hzn2 := heap_alloc_new w1 (.cells (item0 0) 33)
          obtain ⟨w2, hw2⟩ : ∃ w2, w1.alloc (.cells #[.int .i64 1, .int .i64 0, .slice none 0 0] 33) = w2 := ⟨_, rfl⟩
          have hb12 : Below w1.heap.size w1 w2 := by rw [← hw2]; exact (Below.refl _ _).alloc (Nat.le_refl _) _
          have hx2 : w2.heap[w1.heap.size]? = some (.cells #[.int .i64 1, .int .i64 0, .slice none 0 0] 33 (0, 0)) := by rw [← hw2]; exact heap_alloc_new w1 _
          have hs2 : w2.heap.size = w1.heap.size + 1 := by rw [← hw2]; simp
          rw [hw2] at hset2
          have d1 := (hb12.cell (p := ⟨bx, 1, none⟩) hbxl).trans b1
          have d2 := (hb12.cell (p := ⟨bx, 2, none⟩) hbxl).trans b2
          have hb02 : Below wo.heap.size wo w2 := HW.out.2.2.2.2.2.1.trans (hb12.mono HW.out.2.2.2.2.2.1.size)
          have hbyo : wo.heap.size ≤ w1.heap.size := HW.out.2.2.2.2.2.1.size
          rw [hby_] at hset2 hzn2 hx2 hbyo hs2
          have y1 := cell_of_row w2 by_ 1 _ _ _ hx2
          have y2 := cell_of_row w2 by_ 2 _ _ _ hx2
          have f1 := frozen_of_row w2 by_ 1 _ _ hx2
          have f2 := frozen_of_row w2 by_ 2 _ _ hx2
          have hyl := (Array.getElem?_eq_some_iff.1 hx2).1
          clear hb12 hw2
          by_cases h300 : 300 < m
          · have t300 : (300 : Int) < (m : Int) := by omega
            have HS2 := Lib.hid (And.intro hs2 (And.intro hb02 (And.intro hx2 hbyo)))
            obtain ⟨ds, hds⟩ : ∃ ds, bs.take 300 = ds := ⟨_, rfl⟩
            have hdl : ds.length = 300 := by rw [← hds, List.length_take]; have := HW.out.2.2.2.2.1; omega
            have hrw2 := (HW.out.2.2.2.1.below hb02).take 300
            rw [hds] at hrw2
            have HD := Lib.hid (And.intro hrw2 hdl)
            have hbs := run_empty_bytes w2
            have HO := Lib.hid (own_empty w2)
            have HV := Lib.hid (hrw2.below ((Below.refl _ w2).alloc (Nat.le_refl _) (.cells #[] 5))).rowv
            have d2a := (((Below.refl _ w2).alloc (Nat.le_refl _) (.cells #[] 5)).cell (p := ⟨bx, 2, none⟩) (block_lt_of_cell d2)).trans d2
            clear hs2 hb02 hx2 hbyo hds hdl hrw2 y1 f1 d1 y2 f2
            go_wp2_with (first
              | (refine wpList_load_mid rfl 33 (.tmp 14) rfl b (off + j * 3) rfl [.int .i64 K0, .int .i64 N0, .slice At m ct] _ hrg Try.underlying33 rfl info_item ?_)
              | (refine wpList_store_row rfl 33 (.tmp 5) (.tmp 15) rfl bx 33 (item0 0) #[.int .i64 K0, .int .i64 N0, .slice At m ct] rfl rfl hzn info_item rfl (item_one K0 N0 At m ct) ?_; rw [hset])
              | (refine wpList_store_row rfl 33 (.tmp 7) (.tmp 24) rfl by_ 33 (item0 0) #[.int .i64 1, .int .i64 0, .slice none 0 0] rfl rfl hzn2 info_item rfl (item_one 1 0 none 0 0) ?_; rw [hset2])
              | (refine wpList_append_rowv _ rfl (.tmp 26) (.tmp 33) 25 rfl w2.heap.size 5 i1 (.int .u8 0) 1 1 Try.underlying25 HJ.out.1 HJ.out.2.1 HJ.out.2.2.1 HJ.out.2.2.2 (by rfl) (by omega) (.slice (some ⟨w2.heap.size, 0, none⟩) 0 0) 0 [] rfl HO.out At 300 ct (u8v ds) rfl HV.out (by rw [u8v_length, HD.out.2, Nat.mul_one]) (u8v_one ds) (by unfold maxLen; omega) (by omega) (by simp) ?_
                 intro A9 c9 w9 hown9 hgr9
                 obtain ⟨hs2, hb02, hx2, hbyo⟩ := HS2.out
                 obtain ⟨hr9, hb9, hf9⟩ := copied (bs := ds) (w := w2) (w1 := w2) HD.out.1.lt (Below.refl _ _) (by rw [HD.out.2]; exact hown9) hgr9
                 have hx9 := (hb9.block by_ (by omega)).trans hx2
                 have y9 := cell_of_row w9 by_ 2 _ _ _ hx9
                 have f9 := frozen_of_row w9 by_ 2 _ _ hx9
                 have hyl9 := (Array.getElem?_eq_some_iff.1 hx9).1
                 obtain ⟨w3, hw3⟩ : ∃ w3, w9.setCell ⟨by_, 2, none⟩ (.slice A9 300 c9) = w3 := ⟨_, rfl⟩
                 have hx3' : w3.heap[by_]? = some (.cells #[.int .i64 1, .int .i64 0, .slice A9 300 c9] 33 (0, 0)) := by rw [← hw3]; exact heap_setCell_same w9 by_ 2 _ _ _ hx9
                 have hb23 : Below wo.heap.size wo w3 := by rw [← hw3]; exact (hb02.trans (hb9.mono hb02.size)).setCell hbyo _
                 have hr3 : RowU8 w3 A9 ds := by rw [← hw3]; exact hr9.same (fun a ha => heap_setCell_other _ _ _ _ (by have := hf9 a ha; simp; omega))
                 have HT : Hid (w3.heap[by_]? = some (.cells #[.int .i64 1, .int .i64 0, .slice A9 300 c9] 33 (0, 0)) ∧ Below wo.heap.size wo w3 ∧ RowU8 w3 A9 ds ∧ (∀ a, (A9 : Option Addr) = some a → wo.heap.size ≤ a.block) ∧ OkI 1 0 ds ∧ (ds : List Nat).length = 300) := Lib.hid ⟨hx3', hb23, hr3, (fun a ha => by have := hf9 a ha; have := hb02.size; omega), ⟨by decide, by decide, by omega, by omega, by rw [HD.out.2]; omega, HD.out.1.lt, by simp, by simp⟩, HD.out.2⟩
                 clear hx3' hb23 hr3 hs2 hb02 hx2 hbyo hr9 hb9 hf9 hx9 hown9 hgr9
                 have HBS0 := run_bs_item 1 0 A9 300 c9 w3
                 obtain ⟨w4, hw4⟩ : ∃ w4, w3.alloc (.cells #[.int .i64 1, .int .i64 0, .slice A9 300 c9] 33) = w4 := ⟨_, rfl⟩
                 have HW4 := Lib.hid hw4
                 have hb34 : Below w3.heap.size w3 w4 := by rw [← hw4]; exact (Below.refl _ w3).alloc (Nat.le_refl _) _
                 have hrow4 : RowV w4 (some ⟨w3.heap.size, 0, none⟩) [.int .i64 1, .int .i64 0, .slice A9 300 c9] := by rw [← hw4]; exact RowV.of_block (heap_alloc_new w3 _) 3
                 rw [hw4] at HBS0
                 have HBS := Lib.hid HBS0
                 have HQ := Lib.hid (And.intro (ownsRow_keep HW.out.1 fun g _ hl => (HT.out.2.1.trans (hb34.mono HT.out.2.1.size)).block g hl) (And.intro hrow4 (Nat.le_trans HW.out.2.2.2.2.2.2.2.2.2.2 (Nat.le_trans HT.out.2.1.size hb34.size))))
                 have hx3 := HT.out.1
                 clear HBS0 hb34 hrow4 hw4)
              | (refine wpList_load_row rfl 33 (.tmp 7) rfl by_ rfl 33 #[.int .i64 1, .int .i64 0, .slice A9 300 c9] (0, 0) _ hx3 Try.underlying33 rfl info_item ?_)
              | (refine wpList_bs rfl 31 1 #[(0, .tmp 59)] rfl [(0, .agg #[.int .i64 1, .int .i64 0, .slice A9 300 c9])] (by rfl) (.slice (some ⟨w3.heap.size, 0, none⟩) 1 1) w4 HBS.out ?_)
              | (refine wpList_append_rown _ rfl (.tmp 58) (.tmp 60) 31 rfl w.heap.size 33 i0 (.agg (item0 0)) 3 40 Try.underlying31 HI.out.1 HI.out.2.1 HI.out.2.2.1 HI.out.2.2.2 (by rfl) (by omega) (.slice A j c) j (out.flatMap itc) rfl HQ.out.1 (some ⟨w3.heap.size, 0, none⟩) 1 1 [.int .i64 1, .int .i64 0, .slice A9 300 c9] rfl HQ.out.2.1 rfl (by intro u hu; simp only [List.mem_cons, List.not_mem_nil, or_false] at hu; rcases hu with rfl | rfl | rfl <;> rfl) (by unfold maxLen; omega) (by omega) HQ.out.2.2 ?_; intro A' c' w5 hown5 hgr5 hfrom5; have HZ := Lib.hid (And.intro hown5 (And.intro hgr5 hfrom5)); clear hown5 hgr5 hfrom5))
            go_roundg gj
            case measure => omega
            case rel =>
              obtain ⟨hown, hby, hbel, hrow, hmb, hb01, hx1, hs1, hoj, hjg, hsz⟩ := HW.out
              obtain ⟨hown5, hgr5, hfrom5⟩ := HZ.out
              obtain ⟨hx3, hb03, hr3, hA3, hok3, hl3⟩ := HT.out
              have hw4 := HW4.out
              subst hw4
              obtain ⟨r1, r2, r3, r4⟩ := right_next (t := ⟨1, 0, ds, A9, c9⟩) hoj hown hby hbel hb03 hr3 hA3 hok3 (by simp only [itc]; rw [hl3]; exact hown5) (by simp only [itc]; rw [hl3]; exact hgr5) (by simp only [itc]; rw [hl3]; exact hfrom5)
              exact ⟨j + 1, _, A', c', by omega, by go_num, by rw [r1], r1, by omega, r2, r3, r4⟩
          · have t300 : ¬ ((300 : Int) < (m : Int)) := by omega
            have HS2 := Lib.hid (And.intro hs2 (And.intro hb02 (And.intro hx2 hbyo)))
            obtain ⟨ds, hds⟩ : ∃ ds, bs.take m = ds := ⟨_, rfl⟩
            have hdl : ds.length = m := by rw [← hds, List.length_take]; have := HW.out.2.2.2.2.1; omega
            have hrw2 := (HW.out.2.2.2.1.below hb02).take m
            rw [hds] at hrw2
            have HD := Lib.hid (And.intro hrw2 hdl)
            have hbs := run_empty_bytes w2
            have HO := Lib.hid (own_empty w2)
            have HV := Lib.hid (hrw2.below ((Below.refl _ w2).alloc (Nat.le_refl _) (.cells #[] 5))).rowv
            have d2a := (((Below.refl _ w2).alloc (Nat.le_refl _) (.cells #[] 5)).cell (p := ⟨bx, 2, none⟩) (block_lt_of_cell d2)).trans d2
            clear hs2 hb02 hx2 hbyo hds hdl hrw2 y1 f1 d1 y2 f2
            go_wp2_with (first
              | (refine wpList_load_mid rfl 33 (.tmp 14) rfl b (off + j * 3) rfl [.int .i64 K0, .int .i64 N0, .slice At m ct] _ hrg Try.underlying33 rfl info_item ?_)
              | (refine wpList_store_row rfl 33 (.tmp 5) (.tmp 15) rfl bx 33 (item0 0) #[.int .i64 K0, .int .i64 N0, .slice At m ct] rfl rfl hzn info_item rfl (item_one K0 N0 At m ct) ?_; rw [hset])
              | (refine wpList_store_row rfl 33 (.tmp 7) (.tmp 24) rfl by_ 33 (item0 0) #[.int .i64 1, .int .i64 0, .slice none 0 0] rfl rfl hzn2 info_item rfl (item_one 1 0 none 0 0) ?_; rw [hset2])
              | (refine wpList_append_rowv _ rfl (.tmp 26) (.tmp 33) 25 rfl w2.heap.size 5 i1 (.int .u8 0) 1 1 Try.underlying25 HJ.out.1 HJ.out.2.1 HJ.out.2.2.1 HJ.out.2.2.2 (by rfl) (by omega) (.slice (some ⟨w2.heap.size, 0, none⟩) 0 0) 0 [] rfl HO.out At m ct (u8v ds) rfl HV.out (by rw [u8v_length, HD.out.2, Nat.mul_one]) (u8v_one ds) (by unfold maxLen; omega) (by omega) (by simp) ?_
                 intro A9 c9 w9 hown9 hgr9
                 obtain ⟨hs2, hb02, hx2, hbyo⟩ := HS2.out
                 obtain ⟨hr9, hb9, hf9⟩ := copied (bs := ds) (w := w2) (w1 := w2) HD.out.1.lt (Below.refl _ _) (by rw [HD.out.2]; exact hown9) hgr9
                 have hx9 := (hb9.block by_ (by omega)).trans hx2
                 have y9 := cell_of_row w9 by_ 2 _ _ _ hx9
                 have f9 := frozen_of_row w9 by_ 2 _ _ hx9
                 have hyl9 := (Array.getElem?_eq_some_iff.1 hx9).1
                 obtain ⟨w3, hw3⟩ : ∃ w3, w9.setCell ⟨by_, 2, none⟩ (.slice A9 m c9) = w3 := ⟨_, rfl⟩
                 have hx3' : w3.heap[by_]? = some (.cells #[.int .i64 1, .int .i64 0, .slice A9 m c9] 33 (0, 0)) := by rw [← hw3]; exact heap_setCell_same w9 by_ 2 _ _ _ hx9
                 have hb23 : Below wo.heap.size wo w3 := by rw [← hw3]; exact (hb02.trans (hb9.mono hb02.size)).setCell hbyo _
                 have hr3 : RowU8 w3 A9 ds := by rw [← hw3]; exact hr9.same (fun a ha => heap_setCell_other _ _ _ _ (by have := hf9 a ha; simp; omega))
                 have HT : Hid (w3.heap[by_]? = some (.cells #[.int .i64 1, .int .i64 0, .slice A9 m c9] 33 (0, 0)) ∧ Below wo.heap.size wo w3 ∧ RowU8 w3 A9 ds ∧ (∀ a, (A9 : Option Addr) = some a → wo.heap.size ≤ a.block) ∧ OkI 1 0 ds ∧ (ds : List Nat).length = m) := Lib.hid ⟨hx3', hb23, hr3, (fun a ha => by have := hf9 a ha; have := hb02.size; omega), ⟨by decide, by decide, by omega, by omega, by rw [HD.out.2]; omega, HD.out.1.lt, by simp, by simp⟩, HD.out.2⟩
                 clear hx3' hb23 hr3 hs2 hb02 hx2 hbyo hr9 hb9 hf9 hx9 hown9 hgr9
                 have HBS0 := run_bs_item 1 0 A9 m c9 w3
                 obtain ⟨w4, hw4⟩ : ∃ w4, w3.alloc (.cells #[.int .i64 1, .int .i64 0, .slice A9 m c9] 33) = w4 := ⟨_, rfl⟩
                 have HW4 := Lib.hid hw4
                 have hb34 : Below w3.heap.size w3 w4 := by rw [← hw4]; exact (Below.refl _ w3).alloc (Nat.le_refl _) _
                 have hrow4 : RowV w4 (some ⟨w3.heap.size, 0, none⟩) [.int .i64 1, .int .i64 0, .slice A9 m c9] := by rw [← hw4]; exact RowV.of_block (heap_alloc_new w3 _) 3
                 rw [hw4] at HBS0
                 have HBS := Lib.hid HBS0
                 have HQ := Lib.hid (And.intro (ownsRow_keep HW.out.1 fun g _ hl => (HT.out.2.1.trans (hb34.mono HT.out.2.1.size)).block g hl) (And.intro hrow4 (Nat.le_trans HW.out.2.2.2.2.2.2.2.2.2.2 (Nat.le_trans HT.out.2.1.size hb34.size))))
                 have hx3 := HT.out.1
                 clear HBS0 hb34 hrow4 hw4)
              | (refine wpList_load_row rfl 33 (.tmp 7) rfl by_ rfl 33 #[.int .i64 1, .int .i64 0, .slice A9 m c9] (0, 0) _ hx3 Try.underlying33 rfl info_item ?_)
              | (refine wpList_bs rfl 31 1 #[(0, .tmp 59)] rfl [(0, .agg #[.int .i64 1, .int .i64 0, .slice A9 m c9])] (by rfl) (.slice (some ⟨w3.heap.size, 0, none⟩) 1 1) w4 HBS.out ?_)
              | (refine wpList_append_rown _ rfl (.tmp 58) (.tmp 60) 31 rfl w.heap.size 33 i0 (.agg (item0 0)) 3 40 Try.underlying31 HI.out.1 HI.out.2.1 HI.out.2.2.1 HI.out.2.2.2 (by rfl) (by omega) (.slice A j c) j (out.flatMap itc) rfl HQ.out.1 (some ⟨w3.heap.size, 0, none⟩) 1 1 [.int .i64 1, .int .i64 0, .slice A9 m c9] rfl HQ.out.2.1 rfl (by intro u hu; simp only [List.mem_cons, List.not_mem_nil, or_false] at hu; rcases hu with rfl | rfl | rfl <;> rfl) (by unfold maxLen; omega) (by omega) HQ.out.2.2 ?_; intro A' c' w5 hown5 hgr5 hfrom5; have HZ := Lib.hid (And.intro hown5 (And.intro hgr5 hfrom5)); clear hown5 hgr5 hfrom5))
            go_roundg gj
            case measure => omega
            case rel =>
              obtain ⟨hown, hby, hbel, hrow, hmb, hb01, hx1, hs1, hoj, hjg, hsz⟩ := HW.out
              obtain ⟨hown5, hgr5, hfrom5⟩ := HZ.out
              obtain ⟨hx3, hb03, hr3, hA3, hok3, hl3⟩ := HT.out
              have hw4 := HW4.out
              subst hw4
              obtain ⟨r1, r2, r3, r4⟩ := right_next (t := ⟨1, 0, ds, A9, c9⟩) hoj hown hby hbel hb03 hr3 hA3 hok3 (by simp only [itc]; rw [hl3]; exact hown5) (by simp only [itc]; rw [hl3]; exact hgr5) (by simp only [itc]; rw [hl3]; exact hfrom5)
              exact ⟨j + 1, _, A', c', by omega, by go_num, by rw [r1], r1, by omega, r2, r3, r4⟩
        · replace hK : (wrap64 (K0.tmod 6 + 6)).tmod 6 = (2 : Int) := by rw [hK]; rfl
          have hset2 := setRow_new w1 (item0 0) #[.int .i64 2, .int .i64 0, .slice none 0 0] 33
          have hzn2 := heap_alloc_new w1 (.cells (item0 0) 33)
          obtain ⟨w2, hw2⟩ : ∃ w2, w1.alloc (.cells #[.int .i64 2, .int .i64 0, .slice none 0 0] 33) = w2 := ⟨_, rfl⟩
          have hb12 : Below w1.heap.size w1 w2 := by rw [← hw2]; exact (Below.refl _ _).alloc (Nat.le_refl _) _
          have hx2 : w2.heap[w1.heap.size]? = some (.cells #[.int .i64 2, .int .i64 0, .slice none 0 0] 33 (0, 0)) := by rw [← hw2]; exact heap_alloc_new w1 _
          have hs2 : w2.heap.size = w1.heap.size + 1 := by rw [← hw2]; simp
          rw [hw2] at hset2
          have d1 := (hb12.cell (p := ⟨bx, 1, none⟩) hbxl).trans b1
          have d2 := (hb12.cell (p := ⟨bx, 2, none⟩) hbxl).trans b2
          have hb02 : Below wo.heap.size wo w2 := HW.out.2.2.2.2.2.1.trans (hb12.mono HW.out.2.2.2.2.2.1.size)
          have hbyo : wo.heap.size ≤ w1.heap.size := HW.out.2.2.2.2.2.1.size
          rw [hby_] at hset2 hzn2 hx2 hbyo hs2
          have y1 := cell_of_row w2 by_ 1 _ _ _ hx2
          have y2 := cell_of_row w2 by_ 2 _ _ _ hx2
          have f1 := frozen_of_row w2 by_ 1 _ _ hx2
          have f2 := frozen_of_row w2 by_ 2 _ _ hx2
          have hyl := (Array.getElem?_eq_some_iff.1 hx2).1
          clear hb12 hw2
          by_cases h300 : 300 < m
          · have t300 : (300 : Int) < (m : Int) := by omega
            have HS2 := Lib.hid (And.intro hs2 (And.intro hb02 (And.intro hx2 hbyo)))
            obtain ⟨ds, hds⟩ : ∃ ds, bs.take 300 = ds := ⟨_, rfl⟩
            have hdl : ds.length = 300 := by rw [← hds, List.length_take]; have := HW.out.2.2.2.2.1; omega
            have hrw2 := (HW.out.2.2.2.1.below hb02).take 300
            rw [hds] at hrw2
            have HD := Lib.hid (And.intro hrw2 hdl)
            have hbs := run_empty_bytes w2
            have HO := Lib.hid (own_empty w2)
            have HV := Lib.hid (hrw2.below ((Below.refl _ w2).alloc (Nat.le_refl _) (.cells #[] 5))).rowv
            have d2a := (((Below.refl _ w2).alloc (Nat.le_refl _) (.cells #[] 5)).cell (p := ⟨bx, 2, none⟩) (block_lt_of_cell d2)).trans d2
            clear hs2 hb02 hx2 hbyo hds hdl hrw2 y1 f1 d1 y2 f2
            go_wp2_with (first
              | (refine wpList_load_mid rfl 33 (.tmp 14) rfl b (off + j * 3) rfl [.int .i64 K0, .int .i64 N0, .slice At m ct] _ hrg Try.underlying33 rfl info_item ?_)
              | (refine wpList_store_row rfl 33 (.tmp 5) (.tmp 15) rfl bx 33 (item0 0) #[.int .i64 K0, .int .i64 N0, .slice At m ct] rfl rfl hzn info_item rfl (item_one K0 N0 At m ct) ?_; rw [hset])
              | (refine wpList_store_row rfl 33 (.tmp 7) (.tmp 24) rfl by_ 33 (item0 0) #[.int .i64 2, .int .i64 0, .slice none 0 0] rfl rfl hzn2 info_item rfl (item_one 2 0 none 0 0) ?_; rw [hset2])
              | (refine wpList_append_rowv _ rfl (.tmp 26) (.tmp 33) 25 rfl w2.heap.size 5 i1 (.int .u8 0) 1 1 Try.underlying25 HJ.out.1 HJ.out.2.1 HJ.out.2.2.1 HJ.out.2.2.2 (by rfl) (by omega) (.slice (some ⟨w2.heap.size, 0, none⟩) 0 0) 0 [] rfl HO.out At 300 ct (u8v ds) rfl HV.out (by rw [u8v_length, HD.out.2, Nat.mul_one]) (u8v_one ds) (by unfold maxLen; omega) (by omega) (by simp) ?_
                 intro A9 c9 w9 hown9 hgr9
                 obtain ⟨hs2, hb02, hx2, hbyo⟩ := HS2.out
                 obtain ⟨hr9, hb9, hf9⟩ := copied (bs := ds) (w := w2) (w1 := w2) HD.out.1.lt (Below.refl _ _) (by rw [HD.out.2]; exact hown9) hgr9
                 have hx9 := (hb9.block by_ (by omega)).trans hx2
                 have y9 := cell_of_row w9 by_ 2 _ _ _ hx9
                 have f9 := frozen_of_row w9 by_ 2 _ _ hx9
                 have hyl9 := (Array.getElem?_eq_some_iff.1 hx9).1
                 obtain ⟨w3, hw3⟩ : ∃ w3, w9.setCell ⟨by_, 2, none⟩ (.slice A9 300 c9) = w3 := ⟨_, rfl⟩
                 have hx3' : w3.heap[by_]? = some (.cells #[.int .i64 2, .int .i64 0, .slice A9 300 c9] 33 (0, 0)) := by rw [← hw3]; exact heap_setCell_same w9 by_ 2 _ _ _ hx9
                 have hb23 : Below wo.heap.size wo w3 := by rw [← hw3]; exact (hb02.trans (hb9.mono hb02.size)).setCell hbyo _
                 have hr3 : RowU8 w3 A9 ds := by rw [← hw3]; exact hr9.same (fun a ha => heap_setCell_other _ _ _ _ (by have := hf9 a ha; simp; omega))
                 have HT : Hid (w3.heap[by_]? = some (.cells #[.int .i64 2, .int .i64 0, .slice A9 300 c9] 33 (0, 0)) ∧ Below wo.heap.size wo w3 ∧ RowU8 w3 A9 ds ∧ (∀ a, (A9 : Option Addr) = some a → wo.heap.size ≤ a.block) ∧ OkI 2 0 ds ∧ (ds : List Nat).length = 300) := Lib.hid ⟨hx3', hb23, hr3, (fun a ha => by have := hf9 a ha; have := hb02.size; omega), ⟨by decide, by decide, by omega, by omega, by rw [HD.out.2]; omega, HD.out.1.lt, by simp, by simp⟩, HD.out.2⟩
                 clear hx3' hb23 hr3 hs2 hb02 hx2 hbyo hr9 hb9 hf9 hx9 hown9 hgr9
                 have HBS0 := run_bs_item 2 0 A9 300 c9 w3
                 obtain ⟨w4, hw4⟩ : ∃ w4, w3.alloc (.cells #[.int .i64 2, .int .i64 0, .slice A9 300 c9] 33) = w4 := ⟨_, rfl⟩
                 have HW4 := Lib.hid hw4
                 have hb34 : Below w3.heap.size w3 w4 := by rw [← hw4]; exact (Below.refl _ w3).alloc (Nat.le_refl _) _
                 have hrow4 : RowV w4 (some ⟨w3.heap.size, 0, none⟩) [.int .i64 2, .int .i64 0, .slice A9 300 c9] := by rw [← hw4]; exact RowV.of_block (heap_alloc_new w3 _) 3
                 rw [hw4] at HBS0
                 have HBS := Lib.hid HBS0
                 have HQ := Lib.hid (And.intro (ownsRow_keep HW.out.1 fun g _ hl => (HT.out.2.1.trans (hb34.mono HT.out.2.1.size)).block g hl) (And.intro hrow4 (Nat.le_trans HW.out.2.2.2.2.2.2.2.2.2.2 (Nat.le_trans HT.out.2.1.size hb34.size))))
                 have hx3 := HT.out.1
                 clear HBS0 hb34 hrow4 hw4)
              | (refine wpList_load_row rfl 33 (.tmp 7) rfl by_ rfl 33 #[.int .i64 2, .int .i64 0, .slice A9 300 c9] (0, 0) _ hx3 Try.underlying33 rfl info_item ?_)
              | (refine wpList_bs rfl 31 1 #[(0, .tmp 59)] rfl [(0, .agg #[.int .i64 2, .int .i64 0, .slice A9 300 c9])] (by rfl) (.slice (some ⟨w3.heap.size, 0, none⟩) 1 1) w4 HBS.out ?_)
              | (refine wpList_append_rown _ rfl (.tmp 58) (.tmp 60) 31 rfl w.heap.size 33 i0 (.agg (item0 0)) 3 40 Try.underlying31 HI.out.1 HI.out.2.1 HI.out.2.2.1 HI.out.2.2.2 (by rfl) (by omega) (.slice A j c) j (out.flatMap itc) rfl HQ.out.1 (some ⟨w3.heap.size, 0, none⟩) 1 1 [.int .i64 2, .int .i64 0, .slice A9 300 c9] rfl HQ.out.2.1 rfl (by intro u hu; simp only [List.mem_cons, List.not_mem_nil, or_false] at hu; rcases hu with rfl | rfl | rfl <;> rfl) (by unfold maxLen; omega) (by omega) HQ.out.2.2 ?_; intro A' c' w5 hown5 hgr5 hfrom5; have HZ := Lib.hid (And.intro hown5 (And.intro hgr5 hfrom5)); clear hown5 hgr5 hfrom5))
            go_roundg gj
            case measure => omega
            case rel =>
              obtain ⟨hown, hby, hbel, hrow, hmb, hb01, hx1, hs1, hoj, hjg, hsz⟩ := HW.out
              obtain ⟨hown5, hgr5, hfrom5⟩ := HZ.out
              obtain ⟨hx3, hb03, hr3, hA3, hok3, hl3⟩ := HT.out
              have hw4 := HW4.out
              subst hw4
              obtain ⟨r1, r2, r3, r4⟩ := right_next (t := ⟨2, 0, ds, A9, c9⟩) hoj hown hby hbel hb03 hr3 hA3 hok3 (by simp only [itc]; rw [hl3]; exact hown5) (by simp only [itc]; rw [hl3]; exact hgr5) (by simp only [itc]; rw [hl3]; exact hfrom5)
              exact ⟨j + 1, _, A', c', by omega, by go_num, by rw [r1], r1, by omega, r2, r3, r4⟩
          · have t300 : ¬ ((300 : Int) < (m : Int)) := by omega
            have HS2 := Lib.hid (And.intro hs2 (And.intro hb02 (And.intro hx2 hbyo)))
            obtain ⟨ds, hds⟩ : ∃ ds, bs.take m = ds := ⟨_, rfl⟩
            have hdl : ds.length = m := by rw [← hds, List.length_take]; have := HW.out.2.2.2.2.1; omega
            have hrw2 := (HW.out.2.2.2.1.below hb02).take m
            rw [hds] at hrw2
            have HD := Lib.hid (And.intro hrw2 hdl)
            have hbs := run_empty_bytes w2
            have HO := Lib.hid (own_empty w2)
            have HV := Lib.hid (hrw2.below ((Below.refl _ w2).alloc (Nat.le_refl _) (.cells #[] 5))).rowv
            have d2a := (((Below.refl _ w2).alloc (Nat.le_refl _) (.cells #[] 5)).cell (p := ⟨bx, 2, none⟩) (block_lt_of_cell d2)).trans d2
            clear hs2 hb02 hx2 hbyo hds hdl hrw2 y1 f1 d1 y2 f2
            go_wp2_with (first
              | (refine wpList_load_mid rfl 33 (.tmp 14) rfl b (off + j * 3) rfl [.int .i64 K0, .int .i64 N0, .slice At m ct] _ hrg Try.underlying33 rfl info_item ?_)
              | (refine wpList_store_row rfl 33 (.tmp 5) (.tmp 15) rfl bx 33 (item0 0) #[.int .i64 K0, .int .i64 N0, .slice At m ct] rfl rfl hzn info_item rfl (item_one K0 N0 At m ct) ?_; rw [hset])
              | (refine wpList_store_row rfl 33 (.tmp 7) (.tmp 24) rfl by_ 33 (item0 0) #[.int .i64 2, .int .i64 0, .slice none 0 0] rfl rfl hzn2 info_item rfl (item_one 2 0 none 0 0) ?_; rw [hset2])
              | (refine wpList_append_rowv _ rfl (.tmp 26) (.tmp 33) 25 rfl w2.heap.size 5 i1 (.int .u8 0) 1 1 Try.underlying25 HJ.out.1 HJ.out.2.1 HJ.out.2.2.1 HJ.out.2.2.2 (by rfl) (by omega) (.slice (some ⟨w2.heap.size, 0, none⟩) 0 0) 0 [] rfl HO.out At m ct (u8v ds) rfl HV.out (by rw [u8v_length, HD.out.2, Nat.mul_one]) (u8v_one ds) (by unfold maxLen; omega) (by omega) (by simp) ?_
                 intro A9 c9 w9 hown9 hgr9
                 obtain ⟨hs2, hb02, hx2, hbyo⟩ := HS2.out
                 obtain ⟨hr9, hb9, hf9⟩ := copied (bs := ds) (w := w2) (w1 := w2) HD.out.1.lt (Below.refl _ _) (by rw [HD.out.2]; exact hown9) hgr9
                 have hx9 := (hb9.block by_ (by omega)).trans hx2
                 have y9 := cell_of_row w9 by_ 2 _ _ _ hx9
                 have f9 := frozen_of_row w9 by_ 2 _ _ hx9
                 have hyl9 := (Array.getElem?_eq_some_iff.1 hx9).1
                 obtain ⟨w3, hw3⟩ : ∃ w3, w9.setCell ⟨by_, 2, none⟩ (.slice A9 m c9) = w3 := ⟨_, rfl⟩
                 have hx3' : w3.heap[by_]? = some (.cells #[.int .i64 2, .int .i64 0, .slice A9 m c9] 33 (0, 0)) := by rw [← hw3]; exact heap_setCell_same w9 by_ 2 _ _ _ hx9
                 have hb23 : Below wo.heap.size wo w3 := by rw [← hw3]; exact (hb02.trans (hb9.mono hb02.size)).setCell hbyo _
                 have hr3 : RowU8 w3 A9 ds := by rw [← hw3]; exact hr9.same (fun a ha => heap_setCell_other _ _ _ _ (by have := hf9 a ha; simp; omega))
                 have HT : Hid (w3.heap[by_]? = some (.cells #[.int .i64 2, .int .i64 0, .slice A9 m c9] 33 (0, 0)) ∧ Below wo.heap.size wo w3 ∧ RowU8 w3 A9 ds ∧ (∀ a, (A9 : Option Addr) = some a → wo.heap.size ≤ a.block) ∧ OkI 2 0 ds ∧ (ds : List Nat).length = m) := Lib.hid ⟨hx3', hb23, hr3, (fun a ha => by have := hf9 a ha; have := hb02.size; omega), ⟨by decide, by decide, by omega, by omega, by rw [HD.out.2]; omega, HD.out.1.lt, by simp, by simp⟩, HD.out.2⟩
                 clear hx3' hb23 hr3 hs2 hb02 hx2 hbyo hr9 hb9 hf9 hx9 hown9 hgr9
                 have HBS0 := run_bs_item 2 0 A9 m c9 w3
                 obtain ⟨w4, hw4⟩ : ∃ w4, w3.alloc (.cells #[.int .i64 2, .int .i64 0, .slice A9 m c9] 33) = w4 := ⟨_, rfl⟩
                 have HW4 := Lib.hid hw4
                 have hb34 : Below w3.heap.size w3 w4 := by rw [← hw4]; exact (Below.refl _ w3).alloc (Nat.le_refl _) _
                 have hrow4 : RowV w4 (some ⟨w3.heap.size, 0, none⟩) [.int .i64 2, .int .i64 0, .slice A9 m c9] := by rw [← hw4]; exact RowV.of_block (heap_alloc_new w3 _) 3
                 rw [hw4] at HBS0
                 have HBS := Lib.hid HBS0
                 have HQ := Lib.hid (And.intro (ownsRow_keep HW.out.1 fun g _ hl => (HT.out.2.1.trans (hb34.mono HT.out.2.1.size)).block g hl) (And.intro hrow4 (Nat.le_trans HW.out.2.2.2.2.2.2.2.2.2.2 (Nat.le_trans HT.out.2.1.size hb34.size))))
                 have hx3 := HT.out.1
                 clear HBS0 hb34 hrow4 hw4)
              | (refine wpList_load_row rfl 33 (.tmp 7) rfl by_ rfl 33 #[.int .i64 2, .int .i64 0, .slice A9 m c9] (0, 0) _ hx3 Try.underlying33 rfl info_item ?_)
              | (refine wpList_bs rfl 31 1 #[(0, .tmp 59)] rfl [(0, .agg #[.int .i64 2, .int .i64 0, .slice A9 m c9])] (by rfl) (.slice (some ⟨w3.heap.size, 0, none⟩) 1 1) w4 HBS.out ?_)
              | (refine wpList_append_rown _ rfl (.tmp 58) (.tmp 60) 31 rfl w.heap.size 33 i0 (.agg (item0 0)) 3 40 Try.underlying31 HI.out.1 HI.out.2.1 HI.out.2.2.1 HI.out.2.2.2 (by rfl) (by omega) (.slice A j c) j (out.flatMap itc) rfl HQ.out.1 (some ⟨w3.heap.size, 0, none⟩) 1 1 [.int .i64 2, .int .i64 0, .slice A9 m c9] rfl HQ.out.2.1 rfl (by intro u hu; simp only [List.mem_cons, List.not_mem_nil, or_false] at hu; rcases hu with rfl | rfl | rfl <;> rfl) (by unfold maxLen; omega) (by omega) HQ.out.2.2 ?_; intro A' c' w5 hown5 hgr5 hfrom5; have HZ := Lib.hid (And.intro hown5 (And.intro hgr5 hfrom5)); clear hown5 hgr5 hfrom5))
            go_roundg gj
            case measure => omega
            case rel =>
              obtain ⟨hown, hby, hbel, hrow, hmb, hb01, hx1, hs1, hoj, hjg, hsz⟩ := HW.out
              obtain ⟨hown5, hgr5, hfrom5⟩ := HZ.out
              obtain ⟨hx3, hb03, hr3, hA3, hok3, hl3⟩ := HT.out
              have hw4 := HW4.out
              subst hw4
              obtain ⟨r1, r2, r3, r4⟩ := right_next (t := ⟨2, 0, ds, A9, c9⟩) hoj hown hby hbel hb03 hr3 hA3 hok3 (by simp only [itc]; rw [hl3]; exact hown5) (by simp only [itc]; rw [hl3]; exact hgr5) (by simp only [itc]; rw [hl3]; exact hfrom5)
              exact ⟨j + 1, _, A', c', by omega, by go_num, by rw [r1], r1, by omega, r2, r3, r4⟩
        · replace hK : (wrap64 (K0.tmod 6 + 6)).tmod 6 = (3 : Int) := by rw [hK]; rfl
          have hset2 := setRow_new w1 (item0 0) #[.int .i64 3, .int .i64 0, .slice none 0 0] 33
          have hzn2 := heap_alloc_new w1 (.cells (item0 0) 33)
          obtain ⟨w2, hw2⟩ : ∃ w2, w1.alloc (.cells #[.int .i64 3, .int .i64 0, .slice none 0 0] 33) = w2 := ⟨_, rfl⟩
          have hb12 : Below w1.heap.size w1 w2 := by rw [← hw2]; exact (Below.refl _ _).alloc (Nat.le_refl _) _
          have hx2 : w2.heap[w1.heap.size]? = some (.cells #[.int .i64 3, .int .i64 0, .slice none 0 0] 33 (0, 0)) := by rw [← hw2]; exact heap_alloc_new w1 _
          have hs2 : w2.heap.size = w1.heap.size + 1 := by rw [← hw2]; simp
          rw [hw2] at hset2
          have d1 := (hb12.cell (p := ⟨bx, 1, none⟩) hbxl).trans b1
          have d2 := (hb12.cell (p := ⟨bx, 2, none⟩) hbxl).trans b2
          have hb02 : Below wo.heap.size wo w2 := HW.out.2.2.2.2.2.1.trans (hb12.mono HW.out.2.2.2.2.2.1.size)
          have hbyo : wo.heap.size ≤ w1.heap.size := HW.out.2.2.2.2.2.1.size
          rw [hby_] at hset2 hzn2 hx2 hbyo hs2
          have y1 := cell_of_row w2 by_ 1 _ _ _ hx2
          have y2 := cell_of_row w2 by_ 2 _ _ _ hx2
          have f1 := frozen_of_row w2 by_ 1 _ _ hx2
          have f2 := frozen_of_row w2 by_ 2 _ _ hx2
          have hyl := (Array.getElem?_eq_some_iff.1 hx2).1
          clear hb12 hw2
          obtain ⟨v, hv1, hv⟩ := and_one N0
          obtain ⟨w3, hw3⟩ : ∃ w3, w2.setCell ⟨by_, 1, none⟩ (.int .i64 (v : Int)) = w3 := ⟨_, rfl⟩
          have hx3' : w3.heap[by_]? = some (.cells #[.int .i64 3, .int .i64 (v : Int), .slice none 0 0] 33 (0, 0)) := by rw [← hw3]; exact heap_setCell_same w2 by_ 1 _ _ _ hx2
          have hb23 : Below wo.heap.size wo w3 := by rw [← hw3]; exact hb02.setCell hbyo _
          have HT : Hid (w3.heap[by_]? = some (.cells #[.int .i64 3, .int .i64 (v : Int), .slice none 0 0] 33 (0, 0)) ∧ Below wo.heap.size wo w3 ∧ RowU8 w3 none [] ∧ (∀ a, (none : Option Addr) = some a → wo.heap.size ≤ a.block) ∧ OkI 3 v [] ∧ ([] : List Nat).length = 0) := Lib.hid ⟨hx3', hb23, row_nil _ _, (fun a ha => by cases ha), ⟨by decide, by omega, by omega, by omega, by decide, by simp, by simp, by simp⟩, rfl⟩
          clear hx3' hb23 hx2 hb02 hbyo hs2
          have HBS0 := run_bs_item 3 (v : Int) none 0 0 w3
          obtain ⟨w4, hw4⟩ : ∃ w4, w3.alloc (.cells #[.int .i64 3, .int .i64 (v : Int), .slice none 0 0] 33) = w4 := ⟨_, rfl⟩
          have HW4 := Lib.hid hw4
          have hb34 : Below w3.heap.size w3 w4 := by rw [← hw4]; exact (Below.refl _ w3).alloc (Nat.le_refl _) _
          have hrow4 : RowV w4 (some ⟨w3.heap.size, 0, none⟩) [.int .i64 3, .int .i64 (v : Int), .slice none 0 0] := by rw [← hw4]; exact RowV.of_block (heap_alloc_new w3 _) 3
          rw [hw4] at HBS0
          have HBS := Lib.hid HBS0
          have HQ := Lib.hid (And.intro (ownsRow_keep HW.out.1 fun g _ hl => (HT.out.2.1.trans (hb34.mono HT.out.2.1.size)).block g hl) (And.intro hrow4 (Nat.le_trans HW.out.2.2.2.2.2.2.2.2.2.2 (Nat.le_trans HT.out.2.1.size hb34.size))))
          have hx3 := HT.out.1
          clear HBS0 hb34 hrow4 hw4
          go_wp2_with (first
            | (refine wpList_load_mid rfl 33 (.tmp 14) rfl b (off + j * 3) rfl [.int .i64 K0, .int .i64 N0, .slice At m ct] _ hrg Try.underlying33 rfl info_item ?_)
            | (refine wpList_store_row rfl 33 (.tmp 5) (.tmp 15) rfl bx 33 (item0 0) #[.int .i64 K0, .int .i64 N0, .slice At m ct] rfl rfl hzn info_item rfl (item_one K0 N0 At m ct) ?_; rw [hset])
            | (refine wpList_store_row rfl 33 (.tmp 7) (.tmp 24) rfl by_ 33 (item0 0) #[.int .i64 3, .int .i64 0, .slice none 0 0] rfl rfl hzn2 info_item rfl (item_one 3 0 none 0 0) ?_; rw [hset2])
            | (refine wpList_load_row rfl 33 (.tmp 7) rfl by_ rfl 33 #[.int .i64 3, .int .i64 (v : Int), .slice none 0 0] (0, 0) _ hx3 Try.underlying33 rfl info_item ?_)
            | (refine wpList_bs rfl 31 1 #[(0, .tmp 59)] rfl [(0, .agg #[.int .i64 3, .int .i64 (v : Int), .slice none 0 0])] (by rfl) (.slice (some ⟨w3.heap.size, 0, none⟩) 1 1) w4 HBS.out ?_)
            | (refine wpList_append_rown _ rfl (.tmp 58) (.tmp 60) 31 rfl w.heap.size 33 i0 (.agg (item0 0)) 3 40 Try.underlying31 HI.out.1 HI.out.2.1 HI.out.2.2.1 HI.out.2.2.2 (by rfl) (by omega) (.slice A j c) j (out.flatMap itc) rfl HQ.out.1 (some ⟨w3.heap.size, 0, none⟩) 1 1 [.int .i64 3, .int .i64 (v : Int), .slice none 0 0] rfl HQ.out.2.1 rfl (by intro u hu; simp only [List.mem_cons, List.not_mem_nil, or_false] at hu; rcases hu with rfl | rfl | rfl <;> rfl) (by unfold maxLen; omega) (by omega) HQ.out.2.2 ?_; intro A' c' w5 hown5 hgr5 hfrom5; have HZ := Lib.hid (And.intro hown5 (And.intro hgr5 hfrom5)); clear hown5 hgr5 hfrom5))
          go_roundg gj
          case measure => omega
          case rel =>
            obtain ⟨hown, hby, hbel, hrow, hmb, hb01, hx1, hs1, hoj, hjg, hsz⟩ := HW.out
            obtain ⟨hown5, hgr5, hfrom5⟩ := HZ.out
            obtain ⟨hx3, hb03, hr3, hA3, hok3, hl3⟩ := HT.out
            have hw4 := HW4.out
            subst hw4
            obtain ⟨r1, r2, r3, r4⟩ := right_next (t := ⟨3, v, [], none, 0⟩) hoj hown hby hbel hb03 hr3 hA3 hok3 (by simp only [itc]; rw [hl3]; exact hown5) (by simp only [itc]; rw [hl3]; exact hgr5) (by simp only [itc]; rw [hl3]; exact hfrom5)
            exact ⟨j + 1, _, A', c', by omega, by go_num, by rw [r1], r1, by omega, r2, r3, r4⟩
        · replace hK : (wrap64 (K0.tmod 6 + 6)).tmod 6 = (4 : Int) := by rw [hK]; rfl
          have hset2 := setRow_new w1 (item0 0) #[.int .i64 4, .int .i64 0, .slice none 0 0] 33
          have hzn2 := heap_alloc_new w1 (.cells (item0 0) 33)
          obtain ⟨w2, hw2⟩ : ∃ w2, w1.alloc (.cells #[.int .i64 4, .int .i64 0, .slice none 0 0] 33) = w2 := ⟨_, rfl⟩
          have hb12 : Below w1.heap.size w1 w2 := by rw [← hw2]; exact (Below.refl _ _).alloc (Nat.le_refl _) _
          have hx2 : w2.heap[w1.heap.size]? = some (.cells #[.int .i64 4, .int .i64 0, .slice none 0 0] 33 (0, 0)) := by rw [← hw2]; exact heap_alloc_new w1 _
          have hs2 : w2.heap.size = w1.heap.size + 1 := by rw [← hw2]; simp
          rw [hw2] at hset2
          have d1 := (hb12.cell (p := ⟨bx, 1, none⟩) hbxl).trans b1
          have d2 := (hb12.cell (p := ⟨bx, 2, none⟩) hbxl).trans b2
          have hb02 : Below wo.heap.size wo w2 := HW.out.2.2.2.2.2.1.trans (hb12.mono HW.out.2.2.2.2.2.1.size)
          have hbyo : wo.heap.size ≤ w1.heap.size := HW.out.2.2.2.2.2.1.size
          rw [hby_] at hset2 hzn2 hx2 hbyo hs2
          have y1 := cell_of_row w2 by_ 1 _ _ _ hx2
          have y2 := cell_of_row w2 by_ 2 _ _ _ hx2
          have f1 := frozen_of_row w2 by_ 1 _ _ hx2
          have f2 := frozen_of_row w2 by_ 2 _ _ hx2
          have hyl := (Array.getElem?_eq_some_iff.1 hx2).1
          clear hb12 hw2
          have HS2 := Lib.hid (And.intro hs2 (And.intro hb02 (And.intro hx2 hbyo)))
          have hzd := run_zero_digest
          have hbd0 := run_build_digest
          have hsetd := setRow_new w2 z32 z32 60
          have hznd := heap_alloc_new w2 (.cells z32 60)
          obtain ⟨wd, hwd⟩ : ∃ wd, w2.alloc (.cells z32 60) = wd := ⟨_, rfl⟩
          have hb2d : Below w2.heap.size w2 wd := by rw [← hwd]; exact (Below.refl _ _).alloc (Nat.le_refl _) _
          have hsd : wd.heap.size = w2.heap.size + 1 := by rw [← hwd]; simp
          have d2d := (hb2d.cell (p := ⟨bx, 2, none⟩) (block_lt_of_cell d2)).trans d2
          have y2d := (hb2d.cell (p := ⟨by_, 2, none⟩) (block_lt_of_cell y2)).trans y2
          rw [hwd] at hsetd hznd
          generalize hbd : w2.heap.size = bd at hsetd hznd hb2d hsd
          clear hs2 hb02 hx2 hbyo y1 f1 d1 y2 f2
          go_wp2_with (first
            | (refine wpList_load_mid rfl 33 (.tmp 14) rfl b (off + j * 3) rfl [.int .i64 K0, .int .i64 N0, .slice At m ct] _ hrg Try.underlying33 rfl info_item ?_)
            | (refine wpList_store_row rfl 33 (.tmp 5) (.tmp 15) rfl bx 33 (item0 0) #[.int .i64 K0, .int .i64 N0, .slice At m ct] rfl rfl hzn info_item rfl (item_one K0 N0 At m ct) ?_; rw [hset])
            | (refine wpList_store_row rfl 33 (.tmp 7) (.tmp 24) rfl by_ 33 (item0 0) #[.int .i64 4, .int .i64 0, .slice none 0 0] rfl rfl hzn2 info_item rfl (item_one 4 0 none 0 0) ?_; rw [hset2])
            | (refine wpList_store_row rfl 60 (.tmp 8) (.tmp 51) rfl bd 60 z32 z32 rfl rfl hznd info_digest rfl (u8s_one _) ?_; rw [hsetd]))
          refine wp_region_rel3 rfl 3 _ (fun W' => Below wd.heap.size wd W') (fun W1 W2 => Below W1.heap.size W1 W2)
            (fun i => ([fun v _ => v = (.slice (some ⟨bd, 0, none⟩) 32 32 : Value), fun v _ => v = (.pointer (some ⟨bx, 2, none⟩) : Value), fun v _ => v = (.slice At m ct : Value)][i]?).getD (fun _ _ => True))
            (fun x => { tmps := #[.slice (some ⟨b, off, none⟩) n c0, undef, .slice none 0 0, .slice A j c, .int .i64 (j : Int), .pointer (some ⟨bx, 0, none⟩), .int .i64 4, .pointer (some ⟨by_, 0, none⟩), .pointer (some ⟨bd, 0, none⟩), .slice (some ⟨b, off, none⟩) n c0, .int .i64 (n : Int), .int .i64 (j : Int), .bool true, .int .i64 (j : Int), .pointer (some ⟨b, off + j * 3, none⟩), .agg #[.int .i64 K0, .int .i64 N0, .slice At m ct], .int .i64 (j : Int), .bool false, .pointer (some ⟨bx, 0, none⟩), .int .i64 K0, .int .i64 (K0.tmod 6), .int .i64 (wrap64 (K0.tmod 6 + 6)), .int .i64 4, .int .i64 4, .agg ((item0 0).setIfInBounds 0 (.int .i64 4)), .int .i64 4, u26, u27, u28, u29, u30, u31, u32, u33, u34, u35, .bool false, .bool false, .bool false, u39, u40, u41, u42, .bool false, .bool false, u45, u46, u47, u48, .bool true, .bool true, .agg z32, x 0, x 1, x 2, x 3, u56, u57, u58, u59, u60, u61, u62, undef], defers := [] }) (fun i => ([(u52 : Value), (u53 : Value), (u54 : Value), (u55 : Value)][i]?).getD undef) (fun x => by simp only [fillL, Act.put, List.setIfInBounds_toArray, List.set_cons_zero, List.set_cons_succ, Nat.reduceAdd]) rfl rfl rfl (by kernel_rfl) (by kernel_rfl) (by kernel_rfl) ?xst ((Below.refl _ _).drew) ?xop ?xfin
          case xst =>
            intro i v w1 w2 h hb
            rcases i with _ | _ | _ | i
            · exact h
            · exact h
            · exact h
            · exact h
          case xop =>
            simp only [List.take_succ_cons, List.take_zero]
            refine .cons (StepOp.late (.plain rfl fun x w1 hC hd K hK => ?_)) ?_
            · exact wp_value (v := (.slice (some ⟨bd, 0, none⟩) 32 32 : Value)) (by go_simp) (hK _ _ (Below.refl _ _) hC rfl)
            refine .cons (StepOp.late (.plain rfl fun x w1 hC hd K hK => ?_)) ?_
            · exact wp_value (v := (.pointer (some ⟨bx, 2, none⟩) : Value)) (by go_simp) (hK _ _ (Below.refl _ _) hC rfl)
            refine .cons (StepOp.late (.plain rfl fun x w1 hC hd K hK => ?_)) ?_
            · have d1 : x 1 = (.pointer (some ⟨bx, 2, none⟩) : Value) := hd.get 1 rfl
              dsimp only at hK ⊢
              rw [d1] at hK ⊢
              exact wp_value (v := (.slice At m ct : Value)) (by have c1 := (hC.cell (p := ⟨bx, 2, none⟩) (block_lt_of_cell d2d)).trans d2d; go_simp) (hK _ _ (Below.refl _ _) hC rfl)
            exact .nil
          case xfin =>
            intro x w9 hC hΦ hx K hK
            have e0 : x 0 = (.slice (some ⟨bd, 0, none⟩) 32 32 : Value) := hΦ 0 (by decide)
            have e1 : x 1 = (.pointer (some ⟨bx, 2, none⟩) : Value) := hΦ 1 (by decide)
            have e2 : x 2 = (.slice At m ct : Value) := hΦ 2 (by decide)
            dsimp only at hK ⊢
            rw [e0, e1, e2] at hK ⊢
            have hg9 := (hC.block bd (by omega)).trans hznd
            rw [if_pos (show Region.wanted _ _ = true from rfl)]
            refine wp_copy_splice rfl (.tmp 52) (.tmp 54) 25 25 rfl 5 Try.underlying25 (by kernel_rfl) (some ⟨bd, 0, none⟩) At 32 32 m ct rfl rfl bd 0 (u8v (List.replicate 32 0)) 60 hg9 (u8v (bs.take 32)) (by rw [u8v_length, List.length_take, HW.out.2.2.2.2.1]; exact Nat.min_comm 32 m) ?_ (by rw [u8v_length, u8v_length, List.length_take, List.length_replicate]; omega) (u8v_one _) bd wd (hC.mono (by omega)) (Nat.le_refl _) ?_
            · intro h0
              have hbr := (HW.out.2.2.2.1.below (HS2.out.2.1.trans (hb2d.mono (by have := HS2.out.2.1.size; omega)))).below hC
              obtain ⟨bb, oo, e, hc⟩ := (hbr.take 32).form (by rw [u8v_length] at h0; exact h0)
              refine ⟨rfl, ⟨bb, oo, none⟩, e, fun jj v hv => ?_⟩
              have hj : jj < (bs.take 32).length := by have := (List.getElem?_eq_some_iff.1 hv).1; rwa [u8v_length] at this
              rw [plain_add, hc jj hj, ← u8v_get _ _ hj]
              exact hv
            intro w6 hg6 hb6
            refine hK _ _ ?_
            clear hK K hΦ e0 e1 e2 hC hx hg9
            obtain ⟨ds, hds⟩ : ∃ ds, bs.take 32 ++ List.replicate (32 - (bs.take 32).length) 0 = ds := ⟨_, rfl⟩
            have hdl : ds.length = 32 := by rw [← hds, List.length_append, List.length_replicate, List.length_take]; omega
            have hdlt : ∀ x ∈ ds, x < 256 := by
              intro x hx
              rw [← hds] at hx
              rcases List.mem_append.1 hx with h | h
              · exact HW.out.2.2.2.1.lt x (List.mem_of_mem_take h)
              · have := (List.mem_replicate.1 h).2; omega
            have hr6 : RowU8 w6 (some ⟨bd, 0, none⟩) ds := by
              refine row_of_block (t := 60) (fr := (0, 0)) ?_ hdlt
              rw [hg6.out, ← hds]
              congr 2
              have hd : (u8v (List.replicate 32 0)).drop (0 + (u8v (bs.take 32)).length) = u8v (List.replicate (32 - (bs.take 32).length) 0) := by rw [u8v_length, Nat.zero_add]; unfold u8v; rw [List.map_replicate, List.drop_replicate, List.map_replicate]
              unfold splice
              rw [hd, List.take_zero, List.nil_append, ← u8v_append]
              rfl
            obtain ⟨hs2, hb02, hx2, hbyo⟩ := HS2.out
            have hx6 := (hb6.block by_ (by omega)).trans ((hb2d.block by_ (by omega)).trans hx2)
            have y9 := cell_of_row w6 by_ 2 _ _ _ hx6
            have f9 := frozen_of_row w6 by_ 2 _ _ hx6
            have hyl9 := (Array.getElem?_eq_some_iff.1 hx6).1
            have hb06 : Below wo.heap.size wo w6 := (hb02.trans (hb2d.mono (by omega))).trans (hb6.mono (by omega))
            obtain ⟨w3, hw3⟩ : ∃ w3, w6.setCell ⟨by_, 2, none⟩ (.slice (some ⟨bd, 0, none⟩) 32 32) = w3 := ⟨_, rfl⟩
            have hx3' : w3.heap[by_]? = some (.cells #[.int .i64 4, .int .i64 0, .slice (some ⟨bd, 0, none⟩) 32 32] 33 (0, 0)) := by rw [← hw3]; exact heap_setCell_same w6 by_ 2 _ _ _ hx6
            have hb23 : Below wo.heap.size wo w3 := by rw [← hw3]; exact hb06.setCell hbyo _
            have hr3 : RowU8 w3 (some ⟨bd, 0, none⟩) ds := by rw [← hw3]; exact hr6.same (fun a ha => heap_setCell_other _ _ _ _ (by cases ha; simp; omega))
            have HT : Hid (w3.heap[by_]? = some (.cells #[.int .i64 4, .int .i64 0, .slice (some ⟨bd, 0, none⟩) 32 32] 33 (0, 0)) ∧ Below wo.heap.size wo w3 ∧ RowU8 w3 (some ⟨bd, 0, none⟩) ds ∧ (∀ a, ((some ⟨bd, 0, none⟩) : Option Addr) = some a → wo.heap.size ≤ a.block) ∧ OkI 4 0 ds ∧ (ds : List Nat).length = 32) := Lib.hid ⟨hx3', hb23, hr3, (fun a ha => by cases ha; show wo.heap.size ≤ bd; omega), ⟨by decide, by decide, by omega, fun _ => hdl, by omega, hdlt, by simp, by simp⟩, hdl⟩
            clear hx3' hb23 hr3 hs2 hb02 hx2 hbyo hx6 hb06 hg6 hb6 hr6 hdlt hdl hds hb2d hsd hsetd hznd d2d y2d
            have HBS0 := run_bs_item 4 0 (some ⟨bd, 0, none⟩) 32 32 w3
            obtain ⟨w4, hw4⟩ : ∃ w4, w3.alloc (.cells #[.int .i64 4, .int .i64 0, .slice (some ⟨bd, 0, none⟩) 32 32] 33) = w4 := ⟨_, rfl⟩
            have HW4 := Lib.hid hw4
            have hb34 : Below w3.heap.size w3 w4 := by rw [← hw4]; exact (Below.refl _ w3).alloc (Nat.le_refl _) _
            have hrow4 : RowV w4 (some ⟨w3.heap.size, 0, none⟩) [.int .i64 4, .int .i64 0, .slice (some ⟨bd, 0, none⟩) 32 32] := by rw [← hw4]; exact RowV.of_block (heap_alloc_new w3 _) 3
            rw [hw4] at HBS0
            have HBS := Lib.hid HBS0
            have HQ := Lib.hid (And.intro (ownsRow_keep HW.out.1 fun g _ hl => (HT.out.2.1.trans (hb34.mono HT.out.2.1.size)).block g hl) (And.intro hrow4 (Nat.le_trans HW.out.2.2.2.2.2.2.2.2.2.2 (Nat.le_trans HT.out.2.1.size hb34.size))))
            have hx3 := HT.out.1
            clear HBS0 hb34 hrow4 hw4
            go_wp2_with (first
              | (refine wpList_load_row rfl 33 (.tmp 7) rfl by_ rfl 33 #[.int .i64 4, .int .i64 0, .slice (some ⟨bd, 0, none⟩) 32 32] (0, 0) _ hx3 Try.underlying33 rfl info_item ?_)
              | (refine wpList_bs rfl 31 1 #[(0, .tmp 59)] rfl [(0, .agg #[.int .i64 4, .int .i64 0, .slice (some ⟨bd, 0, none⟩) 32 32])] (by rfl) (.slice (some ⟨w3.heap.size, 0, none⟩) 1 1) w4 HBS.out ?_)
              | (refine wpList_append_rown _ rfl (.tmp 58) (.tmp 60) 31 rfl w.heap.size 33 i0 (.agg (item0 0)) 3 40 Try.underlying31 HI.out.1 HI.out.2.1 HI.out.2.2.1 HI.out.2.2.2 (by rfl) (by omega) (.slice A j c) j (out.flatMap itc) rfl HQ.out.1 (some ⟨w3.heap.size, 0, none⟩) 1 1 [.int .i64 4, .int .i64 0, .slice (some ⟨bd, 0, none⟩) 32 32] rfl HQ.out.2.1 rfl (by intro u hu; simp only [List.mem_cons, List.not_mem_nil, or_false] at hu; rcases hu with rfl | rfl | rfl <;> rfl) (by unfold maxLen; omega) (by omega) HQ.out.2.2 ?_; intro A' c' w5 hown5 hgr5 hfrom5; have HZ := Lib.hid (And.intro hown5 (And.intro hgr5 hfrom5)); clear hown5 hgr5 hfrom5))
            go_roundg gj
            case measure => omega
            case rel =>
              obtain ⟨hown, hby, hbel, hrow, hmb, hb01, hx1, hs1, hoj, hjg, hsz⟩ := HW.out
              obtain ⟨hown5, hgr5, hfrom5⟩ := HZ.out
              obtain ⟨hx3, hb03, hr3, hA3, hok3, hl3⟩ := HT.out
              have hw4 := HW4.out
              subst hw4
              obtain ⟨r1, r2, r3, r4⟩ := right_next (t := ⟨4, 0, ds, (some ⟨bd, 0, none⟩), 32⟩) hoj hown hby hbel hb03 hr3 hA3 hok3 (by simp only [itc]; rw [hl3]; exact hown5) (by simp only [itc]; rw [hl3]; exact hgr5) (by simp only [itc]; rw [hl3]; exact hfrom5)
              exact ⟨j + 1, _, A', c', by omega, by go_num, by rw [r1], r1, by omega, r2, r3, r4⟩
        · replace hK : (wrap64 (K0.tmod 6 + 6)).tmod 6 = (5 : Int) := by rw [hK]; rfl
          have hset2 := setRow_new w1 (item0 0) #[.int .i64 5, .int .i64 0, .slice none 0 0] 33
          have hzn2 := heap_alloc_new w1 (.cells (item0 0) 33)
          obtain ⟨w2, hw2⟩ : ∃ w2, w1.alloc (.cells #[.int .i64 5, .int .i64 0, .slice none 0 0] 33) = w2 := ⟨_, rfl⟩
          have hb12 : Below w1.heap.size w1 w2 := by rw [← hw2]; exact (Below.refl _ _).alloc (Nat.le_refl _) _
          have hx2 : w2.heap[w1.heap.size]? = some (.cells #[.int .i64 5, .int .i64 0, .slice none 0 0] 33 (0, 0)) := by rw [← hw2]; exact heap_alloc_new w1 _
          have hs2 : w2.heap.size = w1.heap.size + 1 := by rw [← hw2]; simp
          rw [hw2] at hset2
          have d1 := (hb12.cell (p := ⟨bx, 1, none⟩) hbxl).trans b1
          have d2 := (hb12.cell (p := ⟨bx, 2, none⟩) hbxl).trans b2
          have hb02 : Below wo.heap.size wo w2 := HW.out.2.2.2.2.2.1.trans (hb12.mono HW.out.2.2.2.2.2.1.size)
          have hbyo : wo.heap.size ≤ w1.heap.size := HW.out.2.2.2.2.2.1.size
          rw [hby_] at hset2 hzn2 hx2 hbyo hs2
          have y1 := cell_of_row w2 by_ 1 _ _ _ hx2
          have y2 := cell_of_row w2 by_ 2 _ _ _ hx2
          have f1 := frozen_of_row w2 by_ 1 _ _ hx2
          have f2 := frozen_of_row w2 by_ 2 _ _ hx2
          have hyl := (Array.getElem?_eq_some_iff.1 hx2).1
          clear hb12 hw2
          by_cases hneg : N0 < 0
          · obtain ⟨w3, hw3⟩ : ∃ w3, w2.setCell ⟨by_, 1, none⟩ (.int .i64 0) = w3 := ⟨_, rfl⟩
            have hx3' : w3.heap[by_]? = some (.cells #[.int .i64 5, .int .i64 0, .slice none 0 0] 33 (0, 0)) := by rw [← hw3]; exact heap_setCell_same w2 by_ 1 _ _ _ hx2
            have hb23 : Below wo.heap.size wo w3 := by rw [← hw3]; exact hb02.setCell hbyo _
            have HT : Hid (w3.heap[by_]? = some (.cells #[.int .i64 5, .int .i64 0, .slice none 0 0] 33 (0, 0)) ∧ Below wo.heap.size wo w3 ∧ RowU8 w3 none [] ∧ (∀ a, (none : Option Addr) = some a → wo.heap.size ≤ a.block) ∧ OkI 5 0 [] ∧ ([] : List Nat).length = 0) := Lib.hid ⟨hx3', hb23, row_nil _ _, (fun a ha => by cases ha), ⟨by decide, by omega, by omega, by omega, by decide, by simp, by simp, by simp⟩, rfl⟩
            clear hx3' hb23 hx2 hb02 hbyo hs2
            have HBS0 := run_bs_item 5 0 none 0 0 w3
            obtain ⟨w4, hw4⟩ : ∃ w4, w3.alloc (.cells #[.int .i64 5, .int .i64 0, .slice none 0 0] 33) = w4 := ⟨_, rfl⟩
            have HW4 := Lib.hid hw4
            have hb34 : Below w3.heap.size w3 w4 := by rw [← hw4]; exact (Below.refl _ w3).alloc (Nat.le_refl _) _
            have hrow4 : RowV w4 (some ⟨w3.heap.size, 0, none⟩) [.int .i64 5, .int .i64 0, .slice none 0 0] := by rw [← hw4]; exact RowV.of_block (heap_alloc_new w3 _) 3
            rw [hw4] at HBS0
            have HBS := Lib.hid HBS0
            have HQ := Lib.hid (And.intro (ownsRow_keep HW.out.1 fun g _ hl => (HT.out.2.1.trans (hb34.mono HT.out.2.1.size)).block g hl) (And.intro hrow4 (Nat.le_trans HW.out.2.2.2.2.2.2.2.2.2.2 (Nat.le_trans HT.out.2.1.size hb34.size))))
            have hx3 := HT.out.1
            clear HBS0 hb34 hrow4 hw4
            go_wp2_with (first
              | (refine wpList_load_mid rfl 33 (.tmp 14) rfl b (off + j * 3) rfl [.int .i64 K0, .int .i64 N0, .slice At m ct] _ hrg Try.underlying33 rfl info_item ?_)
              | (refine wpList_store_row rfl 33 (.tmp 5) (.tmp 15) rfl bx 33 (item0 0) #[.int .i64 K0, .int .i64 N0, .slice At m ct] rfl rfl hzn info_item rfl (item_one K0 N0 At m ct) ?_; rw [hset])
              | (refine wpList_store_row rfl 33 (.tmp 7) (.tmp 24) rfl by_ 33 (item0 0) #[.int .i64 5, .int .i64 0, .slice none 0 0] rfl rfl hzn2 info_item rfl (item_one 5 0 none 0 0) ?_; rw [hset2])
              | (refine wpList_load_row rfl 33 (.tmp 7) rfl by_ rfl 33 #[.int .i64 5, .int .i64 0, .slice none 0 0] (0, 0) _ hx3 Try.underlying33 rfl info_item ?_)
              | (refine wpList_bs rfl 31 1 #[(0, .tmp 59)] rfl [(0, .agg #[.int .i64 5, .int .i64 0, .slice none 0 0])] (by rfl) (.slice (some ⟨w3.heap.size, 0, none⟩) 1 1) w4 HBS.out ?_)
              | (refine wpList_append_rown _ rfl (.tmp 58) (.tmp 60) 31 rfl w.heap.size 33 i0 (.agg (item0 0)) 3 40 Try.underlying31 HI.out.1 HI.out.2.1 HI.out.2.2.1 HI.out.2.2.2 (by rfl) (by omega) (.slice A j c) j (out.flatMap itc) rfl HQ.out.1 (some ⟨w3.heap.size, 0, none⟩) 1 1 [.int .i64 5, .int .i64 0, .slice none 0 0] rfl HQ.out.2.1 rfl (by intro u hu; simp only [List.mem_cons, List.not_mem_nil, or_false] at hu; rcases hu with rfl | rfl | rfl <;> rfl) (by unfold maxLen; omega) (by omega) HQ.out.2.2 ?_; intro A' c' w5 hown5 hgr5 hfrom5; have HZ := Lib.hid (And.intro hown5 (And.intro hgr5 hfrom5)); clear hown5 hgr5 hfrom5))
            go_roundg gj
            case measure => omega
            case rel =>
              obtain ⟨hown, hby, hbel, hrow, hmb, hb01, hx1, hs1, hoj, hjg, hsz⟩ := HW.out
              obtain ⟨hown5, hgr5, hfrom5⟩ := HZ.out
              obtain ⟨hx3, hb03, hr3, hA3, hok3, hl3⟩ := HT.out
              have hw4 := HW4.out
              subst hw4
              obtain ⟨r1, r2, r3, r4⟩ := right_next (t := ⟨5, 0, [], none, 0⟩) hoj hown hby hbel hb03 hr3 hA3 hok3 (by simp only [itc]; rw [hl3]; exact hown5) (by simp only [itc]; rw [hl3]; exact hgr5) (by simp only [itc]; rw [hl3]; exact hfrom5)
              exact ⟨j + 1, _, A', c', by omega, by go_num, by rw [r1], r1, by omega, r2, r3, r4⟩
          · obtain ⟨v, rfl⟩ : ∃ v : Nat, N0 = (v : Int) := ⟨N0.toNat, by omega⟩
            obtain ⟨w3, hw3⟩ : ∃ w3, w2.setCell ⟨by_, 1, none⟩ (.int .i64 (v : Int)) = w3 := ⟨_, rfl⟩
            have hx3' : w3.heap[by_]? = some (.cells #[.int .i64 5, .int .i64 (v : Int), .slice none 0 0] 33 (0, 0)) := by rw [← hw3]; exact heap_setCell_same w2 by_ 1 _ _ _ hx2
            have hb23 : Below wo.heap.size wo w3 := by rw [← hw3]; exact hb02.setCell hbyo _
            have HT : Hid (w3.heap[by_]? = some (.cells #[.int .i64 5, .int .i64 (v : Int), .slice none 0 0] 33 (0, 0)) ∧ Below wo.heap.size wo w3 ∧ RowU8 w3 none [] ∧ (∀ a, (none : Option Addr) = some a → wo.heap.size ≤ a.block) ∧ OkI 5 v [] ∧ ([] : List Nat).length = 0) := Lib.hid ⟨hx3', hb23, row_nil _ _, (fun a ha => by cases ha), ⟨by decide, by omega, by omega, by omega, by decide, by simp, by simp, by simp⟩, rfl⟩
            clear hx3' hb23 hx2 hb02 hbyo hs2
            have HBS0 := run_bs_item 5 (v : Int) none 0 0 w3
            obtain ⟨w4, hw4⟩ : ∃ w4, w3.alloc (.cells #[.int .i64 5, .int .i64 (v : Int), .slice none 0 0] 33) = w4 := ⟨_, rfl⟩
            have HW4 := Lib.hid hw4
            have hb34 : Below w3.heap.size w3 w4 := by rw [← hw4]; exact (Below.refl _ w3).alloc (Nat.le_refl _) _
            have hrow4 : RowV w4 (some ⟨w3.heap.size, 0, none⟩) [.int .i64 5, .int .i64 (v : Int), .slice none 0 0] := by rw [← hw4]; exact RowV.of_block (heap_alloc_new w3 _) 3
            rw [hw4] at HBS0
            have HBS := Lib.hid HBS0
            have HQ := Lib.hid (And.intro (ownsRow_keep HW.out.1 fun g _ hl => (HT.out.2.1.trans (hb34.mono HT.out.2.1.size)).block g hl) (And.intro hrow4 (Nat.le_trans HW.out.2.2.2.2.2.2.2.2.2.2 (Nat.le_trans HT.out.2.1.size hb34.size))))
            have hx3 := HT.out.1
            clear HBS0 hb34 hrow4 hw4
            go_wp2_with (first
              | (refine wpList_load_mid rfl 33 (.tmp 14) rfl b (off + j * 3) rfl [.int .i64 K0, .int .i64 (v : Int), .slice At m ct] _ hrg Try.underlying33 rfl info_item ?_)
              | (refine wpList_store_row rfl 33 (.tmp 5) (.tmp 15) rfl bx 33 (item0 0) #[.int .i64 K0, .int .i64 (v : Int), .slice At m ct] rfl rfl hzn info_item rfl (item_one K0 (v : Int) At m ct) ?_; rw [hset])
              | (refine wpList_store_row rfl 33 (.tmp 7) (.tmp 24) rfl by_ 33 (item0 0) #[.int .i64 5, .int .i64 0, .slice none 0 0] rfl rfl hzn2 info_item rfl (item_one 5 0 none 0 0) ?_; rw [hset2])
              | (refine wpList_load_row rfl 33 (.tmp 7) rfl by_ rfl 33 #[.int .i64 5, .int .i64 (v : Int), .slice none 0 0] (0, 0) _ hx3 Try.underlying33 rfl info_item ?_)
              | (refine wpList_bs rfl 31 1 #[(0, .tmp 59)] rfl [(0, .agg #[.int .i64 5, .int .i64 (v : Int), .slice none 0 0])] (by rfl) (.slice (some ⟨w3.heap.size, 0, none⟩) 1 1) w4 HBS.out ?_)
              | (refine wpList_append_rown _ rfl (.tmp 58) (.tmp 60) 31 rfl w.heap.size 33 i0 (.agg (item0 0)) 3 40 Try.underlying31 HI.out.1 HI.out.2.1 HI.out.2.2.1 HI.out.2.2.2 (by rfl) (by omega) (.slice A j c) j (out.flatMap itc) rfl HQ.out.1 (some ⟨w3.heap.size, 0, none⟩) 1 1 [.int .i64 5, .int .i64 (v : Int), .slice none 0 0] rfl HQ.out.2.1 rfl (by intro u hu; simp only [List.mem_cons, List.not_mem_nil, or_false] at hu; rcases hu with rfl | rfl | rfl <;> rfl) (by unfold maxLen; omega) (by omega) HQ.out.2.2 ?_; intro A' c' w5 hown5 hgr5 hfrom5; have HZ := Lib.hid (And.intro hown5 (And.intro hgr5 hfrom5)); clear hown5 hgr5 hfrom5))
            go_roundg gj
            case measure => omega
            case rel =>
              obtain ⟨hown, hby, hbel, hrow, hmb, hb01, hx1, hs1, hoj, hjg, hsz⟩ := HW.out
              obtain ⟨hown5, hgr5, hfrom5⟩ := HZ.out
              obtain ⟨hx3, hb03, hr3, hA3, hok3, hl3⟩ := HT.out
              have hw4 := HW4.out
              subst hw4
              obtain ⟨r1, r2, r3, r4⟩ := right_next (t := ⟨5, v, [], none, 0⟩) hoj hown hby hbel hb03 hr3 hA3 hok3 (by simp only [itc]; rw [hl3]; exact hown5) (by simp only [itc]; rw [hl3]; exact hgr5) (by simp only [itc]; rw [hl3]; exact hfrom5)
              exact ⟨j + 1, _, A', c', by omega, by go_num, by rw [r1], r1, by omega, r2, r3, r4⟩
        · omega

end Go.Proofs.Ytbbnmfdhpepdnaa
