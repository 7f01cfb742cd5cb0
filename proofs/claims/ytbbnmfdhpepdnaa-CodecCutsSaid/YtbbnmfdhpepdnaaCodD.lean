/-
  The reader's Digest.
-/
import Derived.Test.YtbbnmfdhpepdnaaCodG
import Derived.Test.YtbbnmfdhpepdnaaRowS
namespace Go.Proofs.Ytbbnmfdhpepdnaa
open Go.RowKit

def z32 : Array Value := u8s (List.replicate 32 0)
theorem run_zero_digest (w : World) : (zeroValue 60).run Try.prog w = .ok (.agg z32) w := by kernel_rfl
theorem info_digest : (Try.prog.info? 60).map (·.size) = some 32 := by kernel_rfl
theorem u8s_one (ys : List Nat) : (u8s ys).all (·.oneCell') = true := by
  simp only [u8s, List.all_toArray, List.all_map, List.all_eq_true]
  intro y _
  rfl
theorem RowB.range {w : World} {A : Option Addr} {xs : List Nat} (h : RowB w A xs) (h0 : 0 < xs.length) : ∃ b off, A = some ⟨b, off, none⟩ ∧ w.rangeAt b off (u8v xs) := by
  obtain ⟨b, off, cur, T, fr, e, hb, hc, _⟩ := h.blk h0
  refine ⟨b, off, e, fun j v hv => ?_⟩
  have hj : j < xs.length := by
    have := (List.getElem?_eq_some_iff.1 hv).1
    rwa [u8v_length] at this
  rw [cell_of_row _ _ _ _ _ _ hb, hc j hj, ← u8v_get _ _ hj]
  exact hv

/-- what Digest leaves -/
def DgPost (g : Nat) (A0 : Option Addr) (w : World) (r : Except Nat (List Nat × List Nat)) (e : Ending) (w' : World) : Prop :=
  Kp (fun k => k ≠ g) w w' ∧ match r with
    | .ok (bs, ys) => e = .returned (.agg (u8s bs)) ∧ bs.length = 32 ∧ (∀ x ∈ bs, x < 256) ∧ ∃ A2 c2, Rd w' g A2 c2 ys ∧ SameB A0 A2
    | .error code => e = .panicked (thrown g (code : Int))
set_option maxRecDepth 100000 in
set_option maxHeartbeats 400000 in
theorem Digest_any (g : Nat) (A : Option Addr) (c : Nat) (xs : List Nat) (w : World) (h : Rd w g A c xs) :
    Calls Try.prog 33 #[.pointer (some ⟨g, 0, none⟩)] w (DgPost g A w (takeT 32 xs)) := by
  have hz := run_zero_digest
  have hold := h.old
  have hgl := (Array.getElem?_eq_some_iff.1 h.cell).1
  have HT := Lib.hid (take_any g A c xs 32 (w.alloc (.cells z32 60)) (h.below ((Below.refl _ w).alloc (Nat.le_refl _) _)) (by omega))
  clear h
  go_enter Try.func33, Try.ntmps33
  go_wp2_with (fail)
  refine HT.out.mono ?_
  clear HT hz
  rintro e w1 ⟨hk, hp⟩
  have hkw : Kp (fun k => k ≠ g) w w1 := ((Kp.refl _ w).alloc _).trans hk
  have hd1 : w1.heap[w.heap.size]? = some (.cells z32 60 (0, 0)) := (hk.block _ (by simp) (by omega)).trans (heap_alloc_new w _)
  by_cases hl : 32 ≤ xs.length
  · have HE := Lib.hid (show takeT 32 xs = .ok (xs.take 32, xs.drop 32) from if_pos hl)
    rw [HE.out] at hp
    have hbl : (xs.take 32).length = 32 := by rw [List.length_take]; omega
    generalize xs.take 32 = bs at *
    generalize xs.drop 32 = ys at *
    obtain ⟨A1, c1, A2, c2, rfl, hb, hrd, _, hsb, _⟩ := hp
    rw [hbl]
    obtain ⟨b, off, e1, hrg⟩ := hb.range (by omega)
    subst e1
    have hvi : (Try.prog.info? 60).map (·.size) = some (u8v bs).length := by rw [u8v_length, hbl]; exact info_digest
    have hvs : (Try.prog.info? 60).map (·.size) = some (u8s bs).size := by rw [u8s_size, hbl]; exact info_digest
    have harr := run_arrayAt (P := Try.prog) w1 60 5 32 (some ⟨b, off, none⟩) 32 32 Try.underlying60 (Nat.le_refl _)
    have hzs : z32.size = (u8s bs).size := by rw [u8s_size, hbl]; rfl
    have hfin := setRow_heap w1 w.heap.size _ (u8s bs) _ _ hd1
    have HX := Lib.hid (And.intro hkw (And.intro hb.lt (And.intro hrd hsb)))
    have HOld := Lib.hid hold
    have hlt := (Array.getElem?_eq_some_iff.1 hd1).1
    clear hkw hk hb hrd hsb hl hold
    go_wp2_with (first
      | (refine wpList_load_mid rfl 60 (.tmp 5) rfl b off rfl (u8v bs) _ hrg Try.underlying60 rfl hvi ?_)
      | (refine wpList_store_row rfl 60 (.tmp 2) (.tmp 6) rfl w.heap.size 60 z32 (u8s bs) rfl rfl hd1 hvs hzs (u8s_one bs) ?_))
    refine bodyPost_ret (results_cell_row rfl _ _ w.heap.size _ _ _ _ rfl hfin Try.underlying60 rfl hvs) rfl ?_
    refine ⟨⟨HX.out.1.os, HX.out.1.tape, HX.out.1.output, by have := HX.out.1.size; simpa using this, fun k hk hkg => ?_⟩, ?_⟩
    · exact (heap_setRow_other _ _ _ _ (by omega)).trans (HX.out.1.block k hk hkg)
    · rw [HE.out]
      refine ⟨rfl, hbl, HX.out.2.1, A2, c2, ?_, HX.out.2.2.2⟩
      refine HX.out.2.2.1.move (by simp) (heap_setRow_other _ _ _ _ (by omega)) (fun a ha _ => heap_setRow_other _ _ _ _ (fun e => ?_))
      obtain ⟨q, hq, e'⟩ := HX.out.2.2.2 a ha
      have := HOld.out q hq
      omega
  · have HE := Lib.hid (show takeT 32 xs = .error 6 from if_neg hl)
    rw [HE.out] at hp
    have hp' : e = .panicked (thrown g 6) := hp
    subst hp'
    clear hp
    have HX := Lib.hid hkw
    clear hkw hk hd1 hl
    go_wp2
    refine ⟨rfl, HX.out, ?_⟩
    rw [HE.out]
    rfl

end Go.Proofs.Ytbbnmfdhpepdnaa
