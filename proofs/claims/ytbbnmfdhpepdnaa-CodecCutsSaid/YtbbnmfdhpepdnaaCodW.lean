/-
  The writer: numbers.
-/
import Derived.Test.YtbbnmfdhpepdnaaCodC
import Derived.Test.YtbbnmfdhpepdnaaApp
namespace Go.Proofs.Ytbbnmfdhpepdnaa
open Go.RowKit

/-- a number's bytes -/
def numB (n : Nat) : List Nat := if n < 128 then [n] else (128 + n % 128) :: numB (n / 128)
theorem numB_small {n : Nat} (h : n < 128) : numB n = [n] := by rw [numB, if_pos h]
theorem numB_big {n : Nat} (h : ¬ n < 128) : numB n = (128 + n % 128) :: numB (n / 128) := by rw [numB, if_neg h]
theorem numB_lt : ∀ n, ∀ x ∈ numB n, x < 256 := by
  intro n
  induction n using Nat.strongRecOn with
  | ind n ih =>
    by_cases h : n < 128
    · rw [numB_small h]; intro x hx; simp at hx; omega
    · rw [numB_big h]
      intro x hx
      rcases List.mem_cons.1 hx with rfl | hx
      · have := Nat.mod_lt n (show 128 > 0 by decide); omega
      · exact ih (n / 128) (by omega) x hx
theorem numB_len : ∀ k n, n < 128 ^ k → 0 < k → (numB n).length ≤ k
  | 0, _, _, h => by omega
  | 1, n, h, _ => by rw [numB_small (by simpa using h)]; simp
  | k + 2, n, h, _ => by
    by_cases h' : n < 128
    · rw [numB_small h']; simp
    · rw [numB_big h', List.length_cons]
      have := numB_len (k + 1) (n / 128) (by rw [Nat.div_lt_iff_lt_mul (by decide)]; rw [Nat.pow_succ] at h; exact h) (by omega)
      omega
theorem numB_nine {n : Nat} (h : n < 9223372036854775808) : (numB n).length ≤ 9 := numB_len 9 n (by have : (128 : Nat) ^ 9 = 9223372036854775808 := by decide
                                                                                                    omega) (by decide)
theorem numB_ne (n : Nat) : numB n ≠ [] := by
  by_cases h : n < 128
  · rw [numB_small h]; simp
  · rw [numB_big h]; simp

/-- a writer at block g: what was put -/
structure Wr (w : World) (B g : Nat) (A : Option Addr) (c : Nat) (xs : List Nat) : Prop where
  cell : w.heap[g]? = some (.cells #[.slice A xs.length c] 44 (0, 0))
  row : OwnB w B A c xs
  low : g < B
/-- what stays where a writer puts something -/
def WrK (g : Nat) (A : Option Addr) (k : Nat) : Prop := k ≠ g ∧ ∀ a, A = some a → a.block ≠ k
/-- what a writer leaves -/
def WrPost (B g : Nat) (A : Option Addr) (v : Value) (ys : List Nat) (w : World) (e : Ending) (w' : World) : Prop :=
  ∃ A' c', e = .returned v ∧ Wr w' B g A' c' ys ∧ Kp (WrK g A) w w' ∧ ∀ a, A' = some a → A = A' ∨ w.heap.size ≤ a.block

theorem Kp.trans2 {K K' : Nat → Prop} {a b c : World} (h : Kp K a b) (k : Kp K' b c) (hK : ∀ i, i < a.heap.size → K i → K' i) : Kp K a c :=
  ⟨k.os.trans h.os, k.tape.trans h.tape, k.output.trans h.output, Nat.le_trans h.size k.size, fun i hi hk => (k.block i (Nat.lt_of_lt_of_le hi h.size) (hK i hi hk)).trans (h.block i hi hk)⟩
theorem WrK.next {w : World} {g : Nat} {A A' : Option Addr} (hf : ∀ a, A' = some a → A = A' ∨ w.heap.size ≤ a.block) (k : Nat) (hk : k < w.heap.size) (h : WrK g A k) : WrK g A' k :=
  ⟨h.1, fun a ha => by
    rcases hf a ha with e | e
    · exact h.2 a (e.trans ha)
    · omega⟩
theorem from_next {w w1 : World} {A A' A2 : Option Addr} (hs : w.heap.size ≤ w1.heap.size) (hf : ∀ a, A' = some a → A = A' ∨ w.heap.size ≤ a.block) (hf2 : ∀ a, A2 = some a → A' = A2 ∨ w1.heap.size ≤ a.block) (a : Addr) (ha : A2 = some a) : A = A2 ∨ w.heap.size ≤ a.block := by
  rcases hf2 a ha with e | e
  · rcases hf a (e.trans ha) with e1 | e1
    · exact .inl (e1.trans e)
    · exact .inr e1
  · exact .inr (by omega)
/-- what an append, stored back, leaves -/
theorem wr_put {wx w1 w' : World} {B g : Nat} {A A' : Option Addr} {c c' m : Nat} {xs ys : List Nat} (h : Wr wx B g A c xs) (hb : Below wx.heap.size wx w1) (hy : ∀ y ∈ ys, y < 256) (hm : ys.length = m)
    (hown' : w'.ownsRow B 5 1 (.slice A' (xs.length + m) c') (xs.length + m) (u8v xs ++ u8v ys)) (hgr : w1.grownBy w' (Value.slice A xs.length c).ownBlock)
    (hnew : ∀ a, A' = some a → (Value.slice A xs.length c).ownBlock = some a.block ∨ w1.heap.size ≤ a.block) :
    w'.heap[g]? = some (.cells #[.slice A xs.length c] 44 (0, 0)) ∧ Wr (w'.setCell ⟨g, 0, none⟩ (.slice A' (xs.length + m) c')) B g A' c' (xs ++ ys) ∧ Kp (WrK g A) wx (w'.setCell ⟨g, 0, none⟩ (.slice A' (xs.length + m) c')) ∧
      ∀ a, A' = some a → A = A' ∨ wx.heap.size ≤ a.block := by
  subst hm
  have hgl := (Array.getElem?_eq_some_iff.1 h.cell).1
  have hob : ∀ k, (Value.slice A xs.length c).ownBlock = some k → B ≤ k := fun k hk => by
    cases A with
    | none => cases hk
    | some q => cases hk; exact (h.row.from q rfl).1
  have hg' : w'.heap[g]? = some (.cells #[.slice A xs.length c] 44 (0, 0)) := by
    rw [hgr.block g (Nat.lt_of_lt_of_le hgl hb.size) (fun e => by have := hob g e.symm; have := h.low; omega), hb.block g hgl]
    exact h.cell
  refine ⟨hg', ⟨?_, ⟨?_, ?_⟩, h.low⟩, ?_, fun a ha => ?_⟩
  · have := heap_setCell_same w' g 0 _ _ (.slice A' (xs.length + ys.length) c') hg'
    rw [this, List.length_append]
    rfl
  · intro x hx
    rcases List.mem_append.1 hx with hx | hx
    · exact h.row.lt x hx
    · exact hy x hx
  · rw [List.length_append, u8v_append]
    refine ownsRow_keep hown' fun k hk _ => heap_setCell_other w' _ k _ ?_
    show k ≠ g
    have := h.low; omega
  · refine (Kp.setCell ⟨hgr.os.trans hb.os, hgr.tape.trans hb.tape, hgr.output.trans hb.output, Nat.le_trans hb.size hgr.size, fun k hk hK => ?_⟩ (fun hK => hK.1 rfl) _)
    rw [hgr.block k (Nat.lt_of_lt_of_le hk hb.size) (fun e => ?_), hb.block k hk]
    cases hA : A with
    | none => rw [hA] at e; cases e
    | some q => rw [hA] at e; cases e; exact hK.2 q hA rfl
  · rcases hnew a ha with h1 | h1
    · cases hA : A with
      | none => rw [hA] at h1; cases h1
      | some q =>
        rw [hA] at h1
        have e1 : q.block = a.block := by injection h1
        left
        rw [ha]
        rcases h.row.own.2 with ⟨e, _⟩ | ⟨g1, _, _, hv, _⟩
        · injection e with e; rw [hA] at e; cases e
        · rcases hown'.2 with ⟨e, _⟩ | ⟨g2, _, _, hv2, _⟩
          · injection e with e; rw [ha] at e; cases e
          · injection hv with e3
            injection hv2 with e4
            rw [hA] at e3; rw [ha] at e4
            cases e3; cases e4
            cases e1; rfl
    · right; have := hb.size; omega

theorem WNumber_neg (p : Value) (n : Int) (w : World) (hn : n < 0) :
    Calls Try.prog 22 #[p, .int .i64 n] w fun e w' => e = .returned (.bool false) ∧ w = w' := by
  have t1 : decide (n < 0) = true := by simpa using hn
  go_enter Try.func22, Try.ntmps22
  go_wp2
  go_ret
  exact ⟨rfl, rfl⟩

set_option maxRecDepth 100000 in
set_option maxHeartbeats 1000000 in
theorem WNumber_any (B g : Nat) (A : Option Addr) (c : Nat) (xs : List Nat) (n : Nat) (w : World) (h : Wr w B g A c xs) (hB : B ≤ w.heap.size) (hn : n < 9223372036854775808) (hm : xs.length ≤ 140737488355000) :
    Calls Try.prog 22 #[.pointer (some ⟨g, 0, none⟩), .int .i64 (n : Int)] w (WrPost B g A (.bool true) (xs ++ numB n) w) := by
  have t1 : decide ((n : Int) < 0) = false := by simp
  have H := Lib.hid h
  have HN := Lib.hid hn
  clear h hn
  go_enter Try.func22, Try.ntmps22
  go_wp2_with (fail)
  clear t1
  go_loopg [1] n (fun gk s1 wx => ∃ (m : Nat) (pre : List Nat) (A' : Option Addr) (c' : Nat), m ≤ gk ∧ m ≤ n ∧ s1 = .int .i64 (m : Int) ∧ xs ++ numB n = (xs ++ pre) ++ numB m ∧ pre.length + (numB m).length = (numB n).length ∧ Wr wx B g A' c' (xs ++ pre) ∧ Kp (WrK g A) w wx ∧ ∀ a, A' = some a → A = A' ∨ w.heap.size ≤ a.block)
  case atStart => exact ⟨n, [], A, c, Nat.le_refl _, Nat.le_refl _, rfl, by simp, by simp, by simpa using H.out, Kp.refl _ _, fun _ _ => .inl rfl⟩
  case round =>
    obtain ⟨m, pre, A', c', hmg, hmn, rfl, heq, hlen, hwr, hkp, hfrom⟩ := hrel
    obtain ⟨i0, hi, hz0, hz1, hz2⟩ := info_parts info_byte
    have HI := Lib.hid (And.intro hi (And.intro hz0 (And.intro hz1 hz2)))
    clear hi hz0 hz1 hz2
    have cg := cell_of_row wr g 0 _ _ _ hwr.cell
    have fg := frozen_of_row wr g 0 _ _ hwr.cell
    have hnine := numB_nine HN.out
    have hgl := (Array.getElem?_eq_some_iff.1 hwr.cell).1
    have hm63 : m ≤ 9223372036854775807 := by have := HN.out; omega
    have hxl : (xs ++ pre).length ≤ 140737488355200 := by rw [List.length_append]; have := List.length_pos_iff.2 (numB_ne m); omega
    have hBw : B ≤ wr.heap.size := Nat.le_trans hB hkp.size
    have HW := Lib.hid (And.intro hwr (And.intro hkp (And.intro heq (And.intro hlen (And.intro hmg (And.intro hmn hfrom))))))
    clear hwr hkp heq hlen hnine hmg hmn hfrom
    obtain ⟨zs, hzs⟩ : ∃ zs, xs ++ pre = zs := ⟨_, rfl⟩
    rw [hzs] at cg hxl HW
    have hrow : ∀ y : Nat, RowV (wr.alloc (.cells #[.int .u8 (y : Int)] 5)) (some ⟨wr.heap.size, 0, none⟩) (u8v [y]) := fun y => by
      have := RowV.of_block (heap_alloc_new wr (.cells #[.int .u8 (y : Int)] 5)) 1
      simpa [u8v] using this
    have HRow := Lib.hid hrow
    have HRow2 : Hid (∀ z : Nat, RowV (wr.alloc (.cells #[.int .u8 ((z : Int) + 128)] 5)) (some ⟨wr.heap.size, 0, none⟩) (u8v [128 + z])) := Lib.hid fun z => by
      have := hrow (z + 128)
      rw [Nat.add_comm 128 z]
      exact this
    clear hrow
    by_cases hs : m < 128
    · have tt : decide ((m : Int) ≥ 128) = false := by simp; omega
      have hcv : IntKind.u8.wrap (m : Int) = (m : Int) := by rw [IntKind.wrap_u8]; omega
      go_wp2_with (first
        | (refine wpList_append_rown _ rfl (.tmp 28) (.tmp 31) 25 rfl B 5 i0 (.int .u8 0) 1 1 Try.underlying25 HI.out.1 HI.out.2.1 HI.out.2.2.1 HI.out.2.2.2 (by rfl) (by omega) (.slice A' zs.length c') zs.length (u8v zs) rfl (HW.out.1.row.own.alloc _) (some ⟨wr.heap.size, 0, none⟩) 1 1 (u8v [m]) rfl (HRow.out _) (by rw [u8v_length]; rfl) (u8v_one _) (by unfold maxLen; omega) (by omega) (by simp; omega) ?_; intro A2 c2 w2 hown2 hgr2 hnew2; have hP := wr_put HW.out.1 ((Below.refl _ wr).alloc (Nat.le_refl _) _) (by intro x hx; simp at hx; omega) rfl hown2 hgr2 hnew2; have cg2 := cell_of_row _ g 0 _ _ _ hP.1; have fg2 := frozen_of_row _ g 0 _ _ hP.1; have HP := Lib.hid hP.2; clear hP hown2 hgr2 hnew2))
      go_ret
      exact ⟨A2, c2, rfl, by rw [HW.out.2.2.1, numB_small hs]; exact HP.out.1, HW.out.2.1.trans2 HP.out.2.1 (fun k hk => WrK.next HW.out.2.2.2.2.2.2 k hk), from_next HW.out.2.1.size HW.out.2.2.2.2.2.2 HP.out.2.2⟩
    · have tt : decide ((m : Int) ≥ 128) = true := by simp; omega
      have e1 : (m : Int) % 128 = ((m % 128 : Nat) : Int) := by omega
      have e3 : (m : Int) / 128 = ((m / 128 : Nat) : Int) := by omega
      have hz : m % 128 < 128 := Nat.mod_lt _ (by decide)
      have hq : m / 128 < m := by omega
      have hbig := numB_big hs
      have HB := Lib.hid (And.intro hbig (show m / 128 ≤ m from by omega))
      clear hbig
      generalize m % 128 = z at *
      generalize m / 128 = q at *
      cases gk with
      | zero => exfalso; have := HW.out.2.2.2.2.1; omega
      | succ gk =>
        go_wp2_with (first
          | (refine wpList_append_rown _ rfl (.tmp 15) (.tmp 20) 25 rfl B 5 i0 (.int .u8 0) 1 1 Try.underlying25 HI.out.1 HI.out.2.1 HI.out.2.2.1 HI.out.2.2.2 (by rfl) (by omega) (.slice A' zs.length c') zs.length (u8v zs) rfl (HW.out.1.row.own.alloc _) (some ⟨wr.heap.size, 0, none⟩) 1 1 (u8v [128 + z]) rfl (HRow2.out _) (by rw [u8v_length]; rfl) (u8v_one _) (by unfold maxLen; omega) (by omega) (by simp; omega) ?_; intro A2 c2 w2 hown2 hgr2 hnew2; have hP := wr_put HW.out.1 ((Below.refl _ wr).alloc (Nat.le_refl _) _) (by intro x hx; simp at hx; omega) rfl hown2 hgr2 hnew2; have cg2 := cell_of_row _ g 0 _ _ _ hP.1; have fg2 := frozen_of_row _ g 0 _ _ hP.1; have HP := Lib.hid hP.2; clear hP hown2 hgr2 hnew2))
        go_roundg gk
        case measure => omega
        case rel =>
          refine ⟨q, pre ++ [128 + z], A2, c2, by have := HW.out.2.2.2.2.1; omega, by have := HW.out.2.2.2.2.2.1; have := HB.out.2; omega, by go_num, ?_, ?_, ?_, HW.out.2.1.trans2 HP.out.2.1 (fun k hk => WrK.next HW.out.2.2.2.2.2.2 k hk), from_next HW.out.2.1.size HW.out.2.2.2.2.2.2 HP.out.2.2⟩
          · rw [HW.out.2.2.1, HB.out.1, ← hzs]; simp
          · have := HW.out.2.2.2.1; rw [HB.out.1] at this; simp at this ⊢; omega
          · rw [← List.append_assoc, hzs]; exact HP.out.1

end Go.Proofs.Ytbbnmfdhpepdnaa
