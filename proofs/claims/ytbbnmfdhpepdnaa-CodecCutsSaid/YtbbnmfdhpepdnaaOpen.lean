/-
  How the arguments of a law are opened: numbers as natural numbers, slices of bytes as lists of natural numbers.
-/
import Derived.Test.YtbbnmfdhpepdnaaRows
import Derived.Test.YtbbnmfdhpepdnaaBytes
import Derived.ProofKit
import Derived.OpenShut
import Derived.ShutString
import Derived.ChangeOld
namespace Go.Proofs.Ytbbnmfdhpepdnaa
open Go.ChangeShapes Go.WideShapes Go.ChangeAt Go.RowKit

theorem Try.ownNone : ownKnob Try.prog.godebug = none := by kernel_rfl
theorem Try.laidOut : laidOutB Try.prog = true := by kernel_rfl

theorem nat_u8 {a : Int} (h : (Lit.int .u8 a).wf = true) : ∃ n : Nat, a = (n : Int) ∧ n < 256 := by
  have hx : 0 ≤ a ∧ a ≤ 255 := by simpa [Lit.wf, IntKind.min, IntKind.max, IntKind.signed, IntKind.bits] using h
  exact ⟨a.toNat, by omega, by omega⟩
theorem nat_u16 {a : Int} (h : (Lit.int .u16 a).wf = true) : ∃ n : Nat, a = (n : Int) ∧ n < 65536 := by
  have hx : 0 ≤ a ∧ a ≤ 65535 := by simpa [Lit.wf, IntKind.min, IntKind.max, IntKind.signed, IntKind.bits] using h
  exact ⟨a.toNat, by omega, by omega⟩
theorem bd_i64 {a : Int} (h : (Lit.int .i64 a).wf = true) : -9223372036854775808 ≤ a ∧ a ≤ 9223372036854775807 := by
  simpa [Lit.wf, IntKind.min, IntKind.max, IntKind.signed, IntKind.bits] using h

/-- what a slice of bytes that came in reads as -/
theorem row_of_open {W : World} {x : Addr} {len : Nat} {zs : List Int} (hl : len ≤ zs.length) (hcell : ∀ i, i < zs.length → W.cell? (x.add i) = some (.int .u8 (zs.getD i 0)))
    (hwz : ∀ n ∈ zs, (Lit.int .u8 n).wf = true) : ∃ xs : List Nat, xs.length = len ∧ RowU8 W (some x) xs := by
  refine ⟨(zs.take len).map Int.toNat, by simp; omega, ?_, ?_⟩
  · intro y hy
    obtain ⟨z, hz, rfl⟩ := List.mem_map.1 hy
    obtain ⟨n, rfl, hn⟩ := nat_u8 (hwz z (List.mem_of_mem_take hz))
    simpa using hn
  · intro i hi
    simp only [List.length_map, List.length_take] at hi
    have hi' : i < zs.length := by omega
    have hc := hcell i hi'
    obtain ⟨b, off, spot⟩ := x
    have hspot : spot = none := by simpa [Addr.add] using World.cell?_spot (hcell 0 (by omega))
    subst hspot
    refine ⟨b, off, rfl, ?_⟩
    obtain ⟨n, hn, _⟩ := nat_u8 (hwz _ (List.getElem_mem hi'))
    have e1 : zs.getD i 0 = (n : Int) := by rw [List.getD_eq_getElem?_getD, List.getElem?_eq_getElem hi']; exact hn
    rw [e1] at hc
    have e2 : ((zs.take len).map Int.toNat)[i]?.getD 0 = n := by
      rw [List.getElem?_map, List.getElem?_take, if_pos (by omega), List.getElem?_eq_getElem hi']
      simp [hn]
    rw [e2]
    rw [← hc]
    unfold Addr.add
    split
    · rename_i h0; subst h0; rfl
    · rfl

end Go.Proofs.Ytbbnmfdhpepdnaa
