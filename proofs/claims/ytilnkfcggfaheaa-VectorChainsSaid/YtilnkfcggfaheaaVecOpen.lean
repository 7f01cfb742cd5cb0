/-
  How an array of 16 numbers that came in is opened.
-/
import Derived.Test.YtilnkfcggfaheaaOpen
import Derived.Test.YtilnkfcggfaheaaVecAll
namespace Go.Proofs.Ytilnkfcggfaheaa
open Go.ChangeShapes Go.WideShapes Go.ChangeAt Go.RowKit

def numOf : Value → Int
  | .int _ n => n
  | _ => 0

theorem trod_num {H : Type} {enc : TypeId × Value → H} {P : Program} {w : World} {base : Nat} {spare : Nat → Bool} {held : Bool} {m : Nat} {t : TypeId} {c : Value} {y : DataW H × List MemPlace}
    (ht : P.underlying t = some (.int .i64)) (h : DataW.trod enc P w base spare held m t [c] = some y) : ∃ n, c = .int .i64 n ∧ (Lit.int .i64 n).wf = true ∧ y.2 = [] := by
  cases m with
  | zero => simp [DataW.trod] at h
  | succ m =>
    unfold DataW.trod at h
    rw [ht] at h
    split at h <;> simp_all
    obtain ⟨⟨rfl, h1⟩, rfl⟩ := h
    rfl

theorem open_arr16 {H : Type} {enc : TypeId × Value → H} {W : World} {r : Reach} {base b0 : Nat} {spare : Nat → Bool} {held : Bool} {fuel : Nat} {v : Value} {x : DataW H × List MemPlace} (T : TypeId)
    (hT : Try.prog.underlying T = some (.array 16 3)) (hc : Try.prog.cellsOf T = 16)
    (hv : Value.okWide Try.prog W r b0 T v) (h : DataW.trod enc Try.prog W base spare held fuel T v.cells.toList = some x) :
    ∃ V : List Int, V.length = 16 ∧ (∀ i : Nat, -9223372036854775808 ≤ V[i]?.getD 0 ∧ V[i]?.getD 0 ≤ 9223372036854775807) ∧ v = .agg (ivs V) ∧ x.2 = [] := by
  have hce : Try.prog.cellsOf 3 = 1 := by kernel_rfl
  unfold Value.okWide at hv
  rw [hT] at hv
  obtain ⟨cs, rfl, hs, -⟩ := hv
  rw [hc] at hs
  obtain ⟨xs, m, -, rfl, hl, hx, hd⟩ := DataW.trod_array hT h
  have hcell : ∀ i, (hi : i < 16) → ∃ n, cs.toList[i]? = some (.int .i64 n) ∧ (Lit.int .i64 n).wf = true ∧ (xs[i]'(by omega)).2 = [] := by
    intro i hi
    have h1 := hd i hi
    rw [hce, Nat.mul_one, List.getElem?_eq_getElem (by omega)] at h1
    have hlen : i < cs.toList.length := by simpa [hs] using hi
    have e : (List.drop i (Value.agg cs).cells.toList).take 1 = [cs.toList[i]] := by
      show (List.drop i cs.toList).take 1 = _
      rw [List.drop_eq_getElem_cons hlen]
      rfl
    rw [e] at h1
    obtain ⟨n, h2, h3, h4⟩ := trod_num Try.underlying3 h1
    exact ⟨n, by rw [List.getElem?_eq_getElem hlen, h2], h3, h4⟩
  refine ⟨cs.toList.map numOf, by simp [hs], fun i => ?_, ?_, ?_⟩
  · rcases Nat.lt_or_ge i 16 with hi | hi
    · obtain ⟨n, h1, h2, -⟩ := hcell i hi
      rw [List.getElem?_map, h1]
      exact bd_i64 h2
    · rw [List.getElem?_eq_none (by simp [hs]; omega)]
      simp
  · congr 1
    apply Array.toList_inj.1
    show cs.toList = (cs.toList.map numOf).map (Value.int .i64)
    rw [List.map_map]
    apply List.ext_getElem?
    intro i
    rw [List.getElem?_map]
    rcases Nat.lt_or_ge i 16 with hi | hi
    · obtain ⟨n, h1, -, -⟩ := hcell i hi
      rw [h1]
      rfl
    · rw [List.getElem?_eq_none (by simp [hs]; omega)]
      rfl
  · show xs.flatMap (·.2) = []
    rw [List.flatMap_eq_nil_iff]
    intro y hy
    obtain ⟨i, hi, rfl⟩ := List.mem_iff_getElem.1 hy
    obtain ⟨_, _, _, h4⟩ := hcell i (by omega)
    exact h4

end Go.Proofs.Ytilnkfcggfaheaa
