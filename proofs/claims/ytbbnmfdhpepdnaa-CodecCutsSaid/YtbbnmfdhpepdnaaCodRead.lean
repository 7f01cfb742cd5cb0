/-
  Read, for whatever function goes through the bytes.
-/
import Derived.Test.YtbbnmfdhpepdnaaCodC
namespace Go.Proofs.Ytbbnmfdhpepdnaa
open Go.RowKit

/-- what a function that goes through bytes with reader g leaves: it came to its end (what is left: ys), or its reader has thrown; of what Read itself laid (the blocks from S on), only the reader and its bytes may be other -/
structure FnPost (S g : Nat) (A : Option Addr) (wr : World) (Φ : List Nat → World → Prop) (Ψ : Int → World → Prop) (e : Ending) (w' : World) : Prop where
  os : w'.os = wr.os
  tape : w'.tape = wr.tape
  output : w'.output = wr.output
  size : wr.heap.size ≤ w'.heap.size
  keep : ∀ k, S ≤ k → k < wr.heap.size → k ≠ g → (∀ a, A = some a → a.block ≠ k) → w'.heap[k]? = wr.heap[k]?
  ends : (e = .returned (.tuple #[]) ∧ ∃ A' c' ys, Rd w' g A' c' ys ∧ Φ ys w') ∨ ∃ code, e = .panicked (thrown g code) ∧ Ψ code w'

/-- what Read leaves -/
def ReadPost (S : Nat) (w : World) (Φ : List Nat → World → Prop) (Ψ : Int → World → Prop) (e : Ending) (w' : World) : Prop :=
  ∃ w1 : World, w1.os = w.os ∧ w1.tape = w.tape ∧ w1.output = w.output ∧ S ≤ w1.heap.size ∧ Below S w1 w' ∧
    ((∃ ys, e = .returned (.int .i64 (if ys = [] then 0 else 6)) ∧ Φ ys w1) ∨ ∃ code, e = .returned (.int .i64 code) ∧ Ψ code w1)

set_option maxRecDepth 100000 in
set_option maxHeartbeats 1000000 in
theorem Read_any (fn : Fn) (K : Nat) (hK : fn = .func K) (caps : Array Value) (A : Option Addr) (c : Nat) (xs : List Nat) (w : World) (h : RowU8 w A xs) (hm : xs.length ≤ 140737488355328) (Φ : List Nat → World → Prop) (Ψ : Int → World → Prop)
    (hcf : ∀ args w, (callFunc K args).run Try.prog w = .ok (.enter K args) w)
    (hf : ∀ (wr : World) (g : Nat) (A' : Option Addr) (c' : Nat), Rd wr g A' c' xs → Below w.heap.size w wr → w.heap.size ≤ g → (∀ a, A' = some a → w.heap.size ≤ a.block) →
      Calls Try.prog K (#[.pointer (some ⟨g, 0, none⟩)] ++ caps) wr (FnPost w.heap.size g A' wr Φ Ψ)) :
    Calls Try.prog 8 #[.slice A xs.length c, .func fn #[] caps] w (ReadPost w.heap.size w Φ Ψ) := by
  subst hK
  have hmf : ∀ (fn : Fn) (first cap : Array Value) (w : World), (Instr.makeFunc fn first cap).run Try.prog w = .ok (.func fn first cap) w := fun _ _ _ _ => rfl
  have HX := Lib.hid (And.intro h hm)
  clear h hm
  go_enter_defers Try.func8, Try.ntmps8
  go_wp2_with (fail)
  have hb0 : Below w.heap.size w (w.alloc (Obj.cells #[Value.int IntKind.i64 0] 23)) := (Below.refl _ w).alloc (Nat.le_refl _) _
  refine (Clone_any A c xs _ (HX.out.1.below hb0) HX.out.2).mono ?_
  rintro e w1 ⟨A1, c1, rfl, hown, hb1, hs1, -⟩
  have he1 : w1.heap[w.heap.size]? = some (.cells #[.int .i64 0] 23 (0, 0)) := (hb1.block _ (by simp)).trans (heap_alloc_new w _)
  have hB1 : Below w.heap.size w w1 := hb0.trans (hb1.mono (by simp))
  have hsz : w.heap.size + 1 ≤ w1.heap.size := by simpa using hs1
  have HW1 := Lib.hid (And.intro hown (And.intro he1 (And.intro hB1 hsz)))
  clear hown he1 hB1 hb0 hs1 hsz hb1
  obtain ⟨W, hW⟩ : ∃ W, (w1.alloc (Obj.cells #[Value.slice A1 xs.length c1] 53)).alloc (Obj.cells #[Value.pointer (some { block := w1.heap.size, off := 0 })] 26) = W := ⟨_, rfl⟩
  have hbW : Below w1.heap.size w1 W := by rw [← hW]; exact ((Below.refl _ _).alloc (Nat.le_refl _) _).alloc (by simp) _
  have hgW : W.heap[w1.heap.size]? = some (.cells #[.slice A1 xs.length c1] 53 (0, 0)) := by rw [← hW]; exact heap_alloc2_old w1 _ _
  have hrW : W.heap[w1.heap.size + 1]? = some (.cells #[.pointer (some ⟨w1.heap.size, 0, none⟩)] 26 (0, 0)) := by rw [← hW]; exact heap_alloc2_new w1 _ _
  have hsW : W.heap.size = w1.heap.size + 2 := by rw [← hW]; simp
  have hrd : Rd W w1.heap.size A1 c1 xs := ⟨hgW, (HW1.out.1.below hbW).row, HW1.out.1.cap.1, HW1.out.1.cap.2, fun a ha => by have := (HW1.out.1.from a ha).2; omega, fun a ha => by have := (HW1.out.1.from a ha).2; omega⟩
  have hfrom : ∀ a, A1 = some a → w.heap.size < a.block ∧ a.block < w1.heap.size := fun a ha => by have := HW1.out.1.from a ha; simp at this; omega
  have heW : W.heap[w.heap.size]? = some (.cells #[.int .i64 0] 23 (0, 0)) := (hbW.block _ (by have := HW1.out.2.2.2; omega)).trans HW1.out.2.1
  have HF := Lib.hid (hf W w1.heap.size A1 c1 hrd (HW1.out.2.2.1.trans (hbW.mono (by have := HW1.out.2.2.2; omega))) (by have := HW1.out.2.2.2; omega) (fun a ha => Nat.le_of_lt (hfrom a ha).1))
  have HWW := Lib.hid (And.intro hrW (And.intro heW (And.intro hsW (And.intro hfrom (And.intro HW1.out.2.2.1 (And.intro HW1.out.2.2.2 hbW))))))
  clear hf hrd hfrom heW hsW hrW hgW hbW HW1
  have cr := cell_of_row W (w1.heap.size + 1) 0 _ _ _ HWW.out.1
  go_wp2_with (fail)
  clear hW cr
  generalize hg : w1.heap.size = g at *
  refine HF.out.mono ?_
  clear HF hmf hcf
  intro e w2 hpost
  obtain ⟨hos, htape, hout, hsz2, hkeep, hends⟩ := hpost
  obtain ⟨hrW, heW, hsW, hfrom, hB1, hsg, hbW⟩ := HWW.out
  have hSg : w.heap.size + 1 ≤ g := hsg
  have hsW' : W.heap.size = g + 2 := hsW
  have hr2 : w2.heap[g + 1]? = some (.cells #[.pointer (some ⟨g, 0, none⟩)] 26 (0, 0)) :=
    (hkeep (g + 1) (by omega) (by omega) (by omega) (fun a ha => by have := (hfrom a ha).2; omega)).trans hrW
  have he2 : w2.heap[w.heap.size]? = some (.cells #[.int .i64 0] 23 (0, 0)) :=
    (hkeep w.heap.size (Nat.le_refl _) (by omega) (by omega) (fun a ha => by have := (hfrom a ha).1; omega)).trans heW
  have HO : Hid (w2.os = w.os ∧ w2.tape = w.tape ∧ w2.output = w.output ∧ w.heap.size ≤ w2.heap.size) := Lib.hid
    ⟨hos.trans (hbW.os.trans hB1.os), htape.trans (hbW.tape.trans hB1.tape), hout.trans (hbW.output.trans hB1.output), by omega⟩
  have hs2 : g + 2 ≤ w2.heap.size := by omega
  clear hos htape hout hsz2 hkeep hrW heW hsW hfrom hB1 hsg hbW HWW hsW' hg
  have cr := cell_of_row w2 (g + 1) 0 _ _ _ hr2
  have ce := cell_of_row w2 w.heap.size 0 _ _ _ he2
  have fe := frozen_of_row w2 w.heap.size 0 _ _ he2
  generalize hS : w.heap.size = S at *
  rcases hends with ⟨rfl, A2, c2, ys, hrd2, hphi⟩ | ⟨code, rfl, hpsi⟩
  · have cg := cell_of_row w2 g 0 _ _ _ hrd2.cell
    have HP := Lib.hid hphi
    clear hrd2 hphi
    cases ys with
    | nil =>
      have hh2 := heap_setCell_same w2 S 0 _ _ (.int .i64 0) he2
      have hb2 : Below S w2 (w2.setCell ⟨S, 0, none⟩ (.int .i64 0)) := (Below.refl _ _).setCell (p := ⟨S, 0, none⟩) (Nat.le_refl _) _
      have HH := Lib.hid (And.intro hh2 hb2)
      clear hh2 hb2
      go_wp2_with (fail)
      refine leaves_cons (f := 27) (args := #[.pointer (some ⟨g + 1, 0, none⟩), .pointer (some ⟨S, 0, none⟩)]) (by simp) (by simp [go_sem]) ?_
      refine (catch_idle (g + 1) S _).mono ?_
      rintro e u' w'' ⟨rfl, rfl, rfl⟩
      have cS := cell_of_row _ S 0 _ _ _ HH.out.1
      refine ⟨.int .i64 0, by simp [results, Try.results8, go_sem, cS], ?_⟩
      exact ⟨w2, HO.out.1, HO.out.2.1, HO.out.2.2.1, HO.out.2.2.2, HH.out.2, .inl ⟨[], rfl, HP.out⟩⟩
    | cons y ys =>
      have hh2 := heap_setCell_same w2 S 0 _ _ (.int .i64 6) he2
      have hb2 : Below S w2 (w2.setCell ⟨S, 0, none⟩ (.int .i64 6)) := (Below.refl _ _).setCell (p := ⟨S, 0, none⟩) (Nat.le_refl _) _
      have HH := Lib.hid (And.intro hh2 hb2)
      have tl : decide (((y :: ys).length : Int) > 0) = true := by simp
      clear hh2 hb2
      go_wp2_with (fail)
      refine leaves_cons (f := 27) (args := #[.pointer (some ⟨g + 1, 0, none⟩), .pointer (some ⟨S, 0, none⟩)]) (by simp) (by simp [go_sem]) ?_
      refine (catch_idle (g + 1) S _).mono ?_
      rintro e u' w'' ⟨rfl, rfl, rfl⟩
      have cS := cell_of_row _ S 0 _ _ _ HH.out.1
      refine ⟨.int .i64 6, by simp [results, Try.results8, go_sem, cS], ?_⟩
      exact ⟨w2, HO.out.1, HO.out.2.1, HO.out.2.2.1, HO.out.2.2.2, HH.out.2, .inl ⟨y :: ys, rfl, HP.out⟩⟩
  · have HP := Lib.hid hpsi
    clear hpsi
    go_wp2_with (fail)
    refine leaves_cons (f := 27) (args := #[.pointer (some ⟨g + 1, 0, none⟩), .pointer (some ⟨S, 0, none⟩)]) (by simp) (by simp [go_sem]) ?_
    refine (catch_thrown (g + 1) S g code 0 [] _ hr2 he2).mono ?_
    rintro e u' w'' ⟨rfl, rfl, hk, hS2⟩
    have cS := cell_of_row _ S 0 _ _ _ hS2
    refine ⟨.int .i64 code, by simp [results, Try.results8, go_sem, cS], ?_⟩
    exact ⟨w2, HO.out.1, HO.out.2.1, HO.out.2.2.1, HO.out.2.2.2, hk.below (by omega) (fun k hk => by omega), .inr ⟨code, rfl, HP.out⟩⟩

end Go.Proofs.Ytbbnmfdhpepdnaa
