/-
  The document's bytes of a number, of bytes, of an item.
-/
import Derived.Test.YtbbnmfdhpepdnaaCodAc
namespace Go.Proofs.Ytbbnmfdhpepdnaa
open Go.RowKit

/-- bytes of the call's own are told -/
def OwPost (xs : List Nat) (w : World) (e : Ending) (w' : World) : Prop := ∃ A c, e = .returned (.slice A xs.length c) ∧ OwnB w' w.heap.size A c xs ∧ Below w.heap.size w w'
theorem own_one (w : World) (y : Nat) (hy : y < 256) (v : Int) (hv : v = (y : Int)) : OwnB (w.alloc (.cells #[.int .u8 v] 5)) w.heap.size (some ⟨w.heap.size, 0, none⟩) 1 [y] := by
  subst hv
  exact ⟨by simpa using hy, rfl, .inr ⟨w.heap.size, 1, #[.int .u8 (y : Int)], rfl, Nat.le_refl _, heap_alloc_new w _, Nat.le_refl _, by decide, rfl, rfl⟩⟩
theorem run_one_byte (v : Int) (w : World) : (Instr.buildSlice 25 1 #[(0, .int .u8 v)]).run Try.prog w = .ok (.slice (some ⟨w.heap.size, 0, none⟩) 1 1) (w.alloc (.cells #[.int .u8 v] 5)) := by kernel_rfl
theorem OwnB.from_append {w' : World} {B : Nat} {A' : Option Addr} {c' m k : Nat} {xs ys : List Nat} (hx : ∀ x ∈ xs, x < 256) (hy : ∀ x ∈ ys, x < 256) (hm : xs.length = m) (hk : ys.length = k)
    (hown : w'.ownsRow B 5 1 (.slice A' (m + k) c') (m + k) (u8v xs ++ u8v ys)) : OwnB w' B A' c' (xs ++ ys) := by
  refine ⟨fun x h => ?_, ?_⟩
  · rcases List.mem_append.1 h with h | h
    · exact hx x h
    · exact hy x h
  · rw [u8v_append, List.length_append, hm, hk]; exact hown

set_option maxRecDepth 100000 in
set_option maxHeartbeats 1000000 in
theorem rNumber_any : ∀ (n : Nat) (w : World), n < 9223372036854775808 → Calls Try.prog 36 #[.int .i64 (n : Int)] w (OwPost (numB n) w) := by
  intro n
  induction n using Nat.strongRecOn with
  | _ n ih =>
    intro w hn
    obtain ⟨i0, hi, hz0, hz1, hz2⟩ := info_parts info_byte
    have HI := Lib.hid (And.intro hi (And.intro hz0 (And.intro hz1 hz2)))
    clear hi hz0 hz1 hz2
    by_cases hs : n < 128
    · have tt : decide ((n : Int) < 128) = true := by simp; omega
      have hcv : IntKind.u8.wrap (n : Int) = (n : Int) := by rw [IntKind.wrap_u8]; omega
      have hbs := run_one_byte (n : Int) w
      clear ih
      go_enter Try.func36, Try.ntmps36
      go_wp2_with (fail)
      go_ret
      rw [numB_small hs]
      exact ⟨_, _, rfl, own_one w n (by omega) _ rfl, (Below.refl _ _).alloc (Nat.le_refl _) _⟩
    · have tt : decide ((n : Int) < 128) = false := by simp; omega
      have e1 : (n : Int) % 128 = ((n % 128 : Nat) : Int) := by omega
      have e3 : (n : Int) / 128 = ((n / 128 : Nat) : Int) := by omega
      have hz : n % 128 < 128 := Nat.mod_lt _ (by decide)
      have hq : n / 128 < 9223372036854775808 := by omega
      have hnine := numB_nine hq
      have HC := Lib.hid (ih (n / 128) (by omega))
      have HB := Lib.hid (numB_big hs)
      clear ih
      have hn63 : n ≤ 9223372036854775807 := by omega
      generalize n % 128 = z at *
      generalize n / 128 = q at *
      have hb1 : Below w.heap.size w (w.alloc (.cells #[.int .u8 (128 + (z : Int))] 5)) := (Below.refl _ _).alloc (Nat.le_refl _) _
      have HO := Lib.hid (And.intro (own_one w (128 + z) (by omega) (128 + (z : Int)) (by omega)) hb1)
      have hbs := run_one_byte (128 + (z : Int)) w
      have hsz : (w.alloc (.cells #[.int .u8 (128 + (z : Int))] 5)).heap.size = w.heap.size + 1 := by simp
      obtain ⟨w1, hw1⟩ : ∃ w1, w.alloc (.cells #[.int .u8 (128 + (z : Int))] 5) = w1 := ⟨_, rfl⟩
      rw [hw1] at HO hbs hsz
      clear hb1
      have HQ := Lib.hid hq
      clear hq
      go_enter Try.func36, Try.ntmps36
      go_wp2_with (fail)
      refine (HC.out w1 HQ.out).mono ?_
      rintro e w2 ⟨A2, c2, rfl, hown, hb2⟩
      have HP := Lib.hid (And.intro (HO.out.1.below hb2) (And.intro hown hb2))
      have hsz2 := hb2.size
      clear hown hb2 hbs hw1 hsz
      obtain ⟨ys, hys⟩ : ∃ ys, numB q = ys := ⟨_, rfl⟩
      rw [hys] at hnine HB HP ⊢
      obtain ⟨m, hm⟩ : ∃ m, ys.length = m := ⟨_, rfl⟩
      have HM := Lib.hid hm
      rw [hm] at hnine ⊢
      clear hm hys
      go_wp2_with (first
        | (refine wpList_append_rown _ rfl (.tmp 12) (.tmp 15) 25 rfl w.heap.size 5 i0 (.int .u8 0) 1 1 Try.underlying25 HI.out.1 HI.out.2.1 HI.out.2.2.1 HI.out.2.2.2 (by rfl) (by omega) (.slice (some ⟨w.heap.size, 0, none⟩) 1 1) 1 (u8v [128 + z]) rfl HP.out.1.own A2 m c2 (u8v ys) rfl (HP.out.2.1.row.u8.rowv) (by rw [u8v_length, HM.out, Nat.mul_one]) (u8v_one _) (by unfold maxLen; omega) (by omega) (by have := HO.out.2.size; omega) ?_; intro A3 c3 w3 hown3 hgr3 hnew3; have HZ := Lib.hid (And.intro hown3 (And.intro hgr3 hnew3)); clear hown3 hgr3 hnew3))
      go_ret
      rw [HB.out]
      have hl : ((128 + z) :: ys).length = 1 + m := by rw [List.length_cons, HM.out]; omega
      refine ⟨A3, c3, by rw [hl]; rfl, OwnB.from_append (xs := [128 + z]) (by simp; omega) HP.out.2.1.lt rfl HM.out HZ.out.1, ?_⟩
      exact (HO.out.2.trans (HP.out.2.2.mono HO.out.2.size)).grown HZ.out.2.1 (by have := HO.out.2.size; have := HP.out.2.2.size; omega) (fun j hj => by cases hj; exact Nat.le_refl _)

theorem wpList_bs1 {P : Program} {ops : Array Oper} {rest : List Oper} {o : Oper} {a : Act} {w : World} {Q : Exit → Act → World → Prop} (hgd : o.guard = none) (T : TypeId) (n : Nat) (parts : Array (Nat × Operand)) (ho : o.op = .buildSlice T n parts) (ps : List (Nat × Value))
    (hp : parts.toList.map (fun p => (p.1, a.eval p.2)) = ps) (v : Value) (w' : World) (h : (Instr.buildSlice T n ps.toArray).run P w = .ok v w') (hk : wpList P ops Q rest (a.put o.dst v) w') : wpList P ops Q (o :: rest) a w :=
  wpList_plain hgd fun _ hK => wp_value' (exec_build T n parts ho ps hp h) (hK _ _ hk)

set_option maxRecDepth 100000 in
set_option maxHeartbeats 1000000 in
theorem rBytes_any (A : Option Addr) (c : Nat) (xs : List Nat) (w : World) (h : RowU8 w A xs) (hm : xs.length ≤ 140737488350000) :
    Calls Try.prog 35 #[.slice A xs.length c] w (OwPost (numB xs.length ++ xs) w) := by
  obtain ⟨i0, hi, hz0, hz1, hz2⟩ := info_parts info_byte
  have HI := Lib.hid (And.intro hi (And.intro hz0 (And.intro hz1 hz2)))
  clear hi hz0 hz1 hz2
  have HX := Lib.hid h
  obtain ⟨n, hn⟩ : ∃ n, xs.length = n := ⟨_, rfl⟩
  have HL := Lib.hid hn
  rw [hn] at hm ⊢
  have HC := Lib.hid (rNumber_any n w (by omega))
  have hnine := numB_nine (n := n) (by omega)
  clear h hn
  go_enter Try.func35, Try.ntmps35
  go_wp2_with (fail)
  refine HC.out.mono ?_
  rintro e w1 ⟨A1, c1, rfl, hown, hb1⟩
  have HP := Lib.hid (And.intro hown (And.intro hb1 (HX.out.below hb1)))
  clear hown hb1
  obtain ⟨ys, hys⟩ : ∃ ys, numB n = ys := ⟨_, rfl⟩
  have HY := Lib.hid hys
  rw [hys] at hnine HP ⊢
  obtain ⟨m, hm'⟩ : ∃ m, ys.length = m := ⟨_, rfl⟩
  have HM := Lib.hid hm'
  rw [hm'] at hnine ⊢
  have HO : Hid (w1.ownsRow w.heap.size 5 1 (.slice A1 m c1) m (u8v ys)) := Lib.hid (by rw [← hm']; exact HP.out.1.own)
  clear hm' hys
  go_wp2_with (first
    | (refine wpList_append_rown _ rfl (.tmp 5) (.tmp 6) 25 rfl w.heap.size 5 i0 (.int .u8 0) 1 1 Try.underlying25 HI.out.1 HI.out.2.1 HI.out.2.2.1 HI.out.2.2.2 (by rfl) (by omega) (.slice A1 m c1) m (u8v ys) rfl HO.out A n c (u8v xs) rfl (HP.out.2.2.rowv) (by rw [u8v_length, HL.out, Nat.mul_one]) (u8v_one _) (by unfold maxLen; omega) (by omega) HP.out.2.1.size ?_; intro A3 c3 w3 hown3 hgr3 hnew3; have HZ := Lib.hid (And.intro hown3 (And.intro hgr3 hnew3)); clear hown3 hgr3 hnew3))
  go_ret
  rw [HY.out]
  have hl : (ys ++ xs).length = m + n := by rw [List.length_append, HM.out, HL.out]
  refine ⟨A3, c3, by rw [hl]; rfl, OwnB.from_append HP.out.1.lt HX.out.lt HM.out HL.out HZ.out.1, ?_⟩
  exact HP.out.2.1.grown HZ.out.2.1 HP.out.2.1.size (fun j hj => (HO.out.lt j hj).1)

/-- the bytes of an item -/
def putB (k N : Nat) (bs : List Nat) : List Nat := if k = 1 ∨ k = 2 then numB bs.length ++ bs else if k = 3 then [N] else if k = 4 then bs else numB N
/-- an item that may be -/
def OkI (k N : Nat) (bs : List Nat) : Prop := k < 6 ∧ N < 9223372036854775808 ∧ (k = 3 → N ≤ 1) ∧ (k = 4 → bs.length = 32) ∧ bs.length ≤ 300 ∧ (∀ x ∈ bs, x < 256) ∧ (k = 1 ∨ k = 2 ∨ k = 3 ∨ k = 4 → k = 3 ∨ N = 0) ∧ (k = 0 ∨ k = 3 ∨ k = 5 → bs = [])

set_option maxRecDepth 100000 in
set_option maxHeartbeats 1000000 in
theorem rPut_any (k N : Nat) (A : Option Addr) (c : Nat) (bs : List Nat) (w : World) (ho : OkI k N bs) (h : RowU8 w A bs) :
    Calls Try.prog 18 #[.agg #[.int .i64 (k : Int), .int .i64 (N : Int), .slice A bs.length c]] w (OwPost (putB k N bs) w) := by
  obtain ⟨i0, hi, hz0, hz1, hz2⟩ := info_parts info_byte
  have HI := Lib.hid (And.intro hi (And.intro hz0 (And.intro hz1 hz2)))
  clear hi hz0 hz1 hz2
  obtain ⟨hk6, hN, h3, h4, h300, -, -, -⟩ := ho
  have HX := Lib.hid h
  obtain ⟨n, hn⟩ : ∃ n, bs.length = n := ⟨_, rfl⟩
  have HL := Lib.hid hn
  rw [hn] at h4 h300 ⊢
  obtain ⟨K, hK⟩ : ∃ K : Int, (k : Int) = K := ⟨_, rfl⟩
  rw [hK]
  obtain ⟨W, hW⟩ : ∃ W, w.alloc (.cells #[.int .i64 K, .int .i64 (N : Int), .slice A n c] 33) = W := ⟨_, rfl⟩
  have hb : Below w.heap.size w W := by rw [← hW]; exact (Below.refl _ w).alloc (Nat.le_refl _) _
  have hx : W.heap[w.heap.size]? = some (.cells #[.int .i64 K, .int .i64 (N : Int), .slice A n c] 33 (0, 0)) := by rw [← hW]; exact heap_alloc_new w _
  have a0 := cell_of_row W w.heap.size 0 _ _ _ hx
  have a1 := cell_of_row W w.heap.size 1 _ _ _ hx
  have a2 := cell_of_row W w.heap.size 2 _ _ _ hx
  have hrow := h.below hb
  have HB := Lib.hid (And.intro hb hrow)
  clear hb hx h hn hrow
  have fin : ∀ (ys : List Nat) (e : Ending) (w' : World), OwPost ys W e w' → OwPost ys w e w' := fun _ _ _ ⟨A, c, he, ho, hbl⟩ => ⟨A, c, he, ho.mono HB.out.1.size, HB.out.1.trans (hbl.mono HB.out.1.size)⟩
  have HF := Lib.hid fin
  clear fin
  rcases k with _ | _ | _ | _ | _ | _ | k
  · obtain rfl : K = 0 := by rw [← hK]; rfl
    have HC := Lib.hid (rNumber_any N W hN)
    go_enter Try.func18, Try.ntmps18
    go_wp2_with (fail)
    refine HC.out.mono ?_
    rintro e w1 ⟨A1, c1, rfl, hown, hb1⟩
    have HP := Lib.hid (And.intro hown hb1)
    clear hown hb1
    go_wp2_with (fail)
    go_ret
    exact HF.out _ _ _ ⟨A1, c1, rfl, HP.out.1, HP.out.2⟩
  · obtain rfl : K = 1 := by rw [← hK]; rfl
    have HC := Lib.hid (rBytes_any A c bs W HB.out.2 (by rw [HL.out]; omega))
    rw [HL.out] at HC
    obtain ⟨ys, hys⟩ : ∃ ys, numB n ++ bs = ys := ⟨_, rfl⟩
    rw [hys] at HC
    have hpb : putB (1) N bs = ys := by rw [← hys, ← HL.out]; rfl
    have HPB := Lib.hid hpb
    clear hpb hys
    go_enter Try.func18, Try.ntmps18
    go_wp2_with (fail)
    refine HC.out.mono ?_
    rintro e w1 ⟨A1, c1, rfl, hown, hb1⟩
    have HP := Lib.hid (And.intro hown hb1)
    clear hown hb1
    go_wp2_with (fail)
    go_ret
    rw [show putB (0 + 1) N bs = ys from HPB.out]
    exact HF.out _ _ _ ⟨A1, c1, rfl, HP.out.1, HP.out.2⟩
  · obtain rfl : K = 2 := by rw [← hK]; rfl
    have HC := Lib.hid (rBytes_any A c bs W HB.out.2 (by rw [HL.out]; omega))
    rw [HL.out] at HC
    obtain ⟨ys, hys⟩ : ∃ ys, numB n ++ bs = ys := ⟨_, rfl⟩
    rw [hys] at HC
    have hpb : putB (2) N bs = ys := by rw [← hys, ← HL.out]; rfl
    have HPB := Lib.hid hpb
    clear hpb hys
    go_enter Try.func18, Try.ntmps18
    go_wp2_with (fail)
    refine HC.out.mono ?_
    rintro e w1 ⟨A1, c1, rfl, hown, hb1⟩
    have HP := Lib.hid (And.intro hown hb1)
    clear hown hb1
    go_wp2_with (fail)
    go_ret
    rw [show putB (0 + 1 + 1) N bs = ys from HPB.out]
    exact HF.out _ _ _ ⟨A1, c1, rfl, HP.out.1, HP.out.2⟩
  · obtain rfl : K = 3 := by rw [← hK]; rfl
    have hN1 : N ≤ 1 := h3 rfl
    have hcv : IntKind.u8.wrap (N : Int) = (N : Int) := by rw [IntKind.wrap_u8]; omega
    have hbs := run_one_byte (N : Int) W
    go_enter Try.func18, Try.ntmps18
    go_wp2_with (fail)
    go_ret
    exact HF.out _ _ _ ⟨_, _, rfl, own_one W N (by omega) _ rfl, (Below.refl _ _).alloc (Nat.le_refl _) _⟩
  · obtain rfl : K = 4 := by rw [← hK]; rfl
    clear h3 h4
    have hbs := run_empty_bytes W
    have HO := Lib.hid (own_empty W)
    have a3 := (((Below.refl _ W).alloc (Nat.le_refl _) (.cells #[] 5)).cell (p := ⟨w.heap.size, 2, none⟩) (block_lt_of_cell a2)).trans a2
    have HV := Lib.hid (HB.out.2.below ((Below.refl _ W).alloc (Nat.le_refl _) (.cells #[] 5))).rowv
    go_enter Try.func18, Try.ntmps18
    go_wp2_with (first
      | (refine wpList_append_rowv _ rfl (.tmp 19) (.tmp 21) 25 rfl W.heap.size 5 i0 (.int .u8 0) 1 1 Try.underlying25 HI.out.1 HI.out.2.1 HI.out.2.2.1 HI.out.2.2.2 (by rfl) (by omega) (.slice (some ⟨W.heap.size, 0, none⟩) 0 0) 0 [] rfl HO.out A n c (u8v bs) rfl HV.out (by rw [u8v_length, HL.out, Nat.mul_one]) (u8v_one bs) (by unfold maxLen; omega) (by omega) (by simp) ?_; intro A' c' w' hown' hgr; have HZ := Lib.hid (And.intro hown' hgr); clear hown' hgr))
    go_ret
    obtain ⟨hown', hgr⟩ := HZ.out
    have hn := HL.out
    subst hn
    obtain ⟨-, hbl, -⟩ := copied (bs := bs) (w := W) (w1 := W) HX.out.lt (Below.refl _ _) hown' hgr
    rw [Nat.zero_add, List.nil_append] at hown'
    exact HF.out _ _ _ ⟨A', c', rfl, ⟨HX.out.lt, hown'⟩, hbl⟩
  · obtain rfl : K = 5 := by rw [← hK]; rfl
    have HC := Lib.hid (rNumber_any N W hN)
    go_enter Try.func18, Try.ntmps18
    go_wp2_with (fail)
    refine HC.out.mono ?_
    rintro e w1 ⟨A1, c1, rfl, hown, hb1⟩
    have HP := Lib.hid (And.intro hown hb1)
    clear hown hb1
    go_wp2_with (fail)
    go_ret
    exact HF.out _ _ _ ⟨A1, c1, rfl, HP.out.1, HP.out.2⟩
  · omega

end Go.Proofs.Ytbbnmfdhpepdnaa
