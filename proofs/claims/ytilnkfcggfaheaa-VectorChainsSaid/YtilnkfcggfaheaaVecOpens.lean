/-
  How a slice of arrays of 16 numbers that came in is opened.
-/
import Derived.Test.YtilnkfcggfaheaaVecOpen
import Derived.Test.YtilnkfcggfaheaaVecMerge
import Derived.Deep.Slices
namespace Go.Proofs.Ytilnkfcggfaheaa
open Go.ChangeShapes Go.WideShapes Go.ChangeAt Go.RowKit Go.Deep

theorem arr16_list {H : Type} {enc : TypeId × Value → H} {W : World} {base : Nat} {spare : Nat → Bool} {held : Bool} {fuel : Nat} {cs : List Value} {x : DataW H × List MemPlace} (T : TypeId)
    (hT : Try.prog.underlying T = some (.array 16 3)) (hc : Try.prog.cellsOf T = 16) (h : DataW.trod enc Try.prog W base spare held fuel T cs = some x) :
    ∃ V : List Int, V.length = 16 ∧ (∀ i : Nat, -9223372036854775808 ≤ V[i]?.getD 0 ∧ V[i]?.getD 0 ≤ 9223372036854775807) ∧ cs = ivl V := by
  have hce : Try.prog.cellsOf 3 = 1 := by kernel_rfl
  obtain ⟨xs, m, -, rfl, hl, hx, hd⟩ := DataW.trod_array hT h
  rw [hc] at hl
  have hcell : ∀ i, (hi : i < 16) → ∃ n, cs[i]? = some (.int .i64 n) ∧ (Lit.int .i64 n).wf = true := by
    intro i hi
    have h1 := hd i hi
    rw [hce, Nat.mul_one, List.getElem?_eq_getElem (by omega)] at h1
    have hlen : i < cs.length := by omega
    have e : (List.drop i cs).take 1 = [cs[i]] := by
      rw [List.drop_eq_getElem_cons hlen]
      rfl
    rw [e] at h1
    obtain ⟨n, h2, h3, -⟩ := trod_num Try.underlying3 h1
    exact ⟨n, by rw [List.getElem?_eq_getElem hlen, h2], h3⟩
  refine ⟨cs.map numOf, by simp [hl], fun i => ?_, ?_⟩
  · rcases Nat.lt_or_ge i 16 with hi | hi
    · obtain ⟨n, h1, h2⟩ := hcell i hi
      rw [List.getElem?_map, h1]
      exact bd_i64 h2
    · rw [List.getElem?_eq_none (by simp [hl]; omega)]
      simp
  · show cs = (cs.map numOf).map (Value.int .i64)
    rw [List.map_map]
    apply List.ext_getElem?
    intro i
    rw [List.getElem?_map]
    rcases Nat.lt_or_ge i 16 with hi | hi
    · obtain ⟨n, h1, -⟩ := hcell i hi
      rw [h1]
      rfl
    · rw [List.getElem?_eq_none (by omega)]
      rfl

theorem vecs_of {W : World} {a : Addr} (f : Nat → List Int) (hf : ∀ i, (f i).length = 16) : ∀ len : Nat, (∀ i, i < len → ∀ j, j < 16 → W.cell? (a.add (i * 16 + j)) = (ivl (f i))[j]?) →
    RowV W (some a) (((List.range len).map f).flatMap ivl) := by
  intro len h
  have hall : ∀ V ∈ (List.range len).map f, V.length = 16 := by
    intro V hV
    obtain ⟨i, -, rfl⟩ := List.mem_map.1 hV
    exact hf i
  have hfl := flat_length hall
  intro k hk
  rw [hfl] at hk
  simp only [List.length_map, List.length_range] at hk
  have hg := flat_get hall (k / 16) (by simp; omega) (k % 16) (by omega)
  rw [show 16 * (k / 16) + k % 16 = k by omega] at hg
  have h1 := h (k / 16) (by omega) (k % 16) (by omega)
  rw [show k / 16 * 16 + k % 16 = k by omega] at h1
  have hl16 : k % 16 < (ivl (f (k / 16))).length := by rw [ivl_length, hf]; omega
  obtain ⟨b, off, spot⟩ := a
  have hspot : spot = none := by
    have h0 := h 0 (by omega) 0 (by omega)
    have hl0 : 0 < (ivl (f 0)).length := by rw [ivl_length, hf]; omega
    rw [List.getElem?_eq_getElem hl0] at h0
    simpa [Addr.add] using World.cell?_spot h0
  subst hspot
  refine ⟨b, off, rfl, ?_⟩
  rw [hg]
  have : ((List.range len).map f)[k / 16]?.getD [] = f (k / 16) := by
    rw [List.getElem?_map, List.getElem?_range (by omega)]; rfl
  rw [this, ← h1]
  unfold Addr.add
  split
  · rename_i h0; subst h0; rfl
  · rfl

theorem open_vecs {H : Type} {enc : TypeId × Value → H} {W : World} {base : Nat} {spare : Nat → Bool} {held : Bool} {fuel : Nat} {A : Option Addr} {len cap : Nat} {x : DataW H × List MemPlace} (S T : TypeId)
    (hS : Try.prog.underlying S = some (.slice T)) (hT : Try.prog.underlying T = some (.array 16 3)) (hc : Try.prog.cellsOf T = 16)
    (h : DataW.trod enc Try.prog W base spare held fuel S (Value.slice A len cap).cells.toList = some x) :
    ∃ Vs : List (List Int), Vs.length = len ∧ RowV W A (Vs.flatMap ivl) ∧ (∀ V ∈ Vs, V.length = 16 ∧ ∀ i : Nat, -9223372036854775808 ≤ V[i]?.getD 0 ∧ V[i]?.getD 0 ≤ 9223372036854775807) ∧ len ≤ 9223372036854775807 := by
  rcases open_slice hS h with ⟨hcs, _⟩ | ⟨a, l, c, m, n, D, Pl, hcs, hb, hlc, hcm, hm, hx, hel⟩
  · simp [Value.cells] at hcs
    obtain ⟨rfl, rfl, rfl⟩ := hcs
    exact ⟨[], rfl, RowV.nil _ _, by simp, by omega⟩
  · simp [Value.cells] at hcs
    obtain ⟨rfl, rfl, rfl⟩ := hcs
    have hlm : len ≤ m := by rw [hm]; split <;> omega
    have key : ∀ i, i < len → ∃ V : List Int, V.length = 16 ∧ (∀ i : Nat, -9223372036854775808 ≤ V[i]?.getD 0 ∧ V[i]?.getD 0 ≤ 9223372036854775807) ∧ ∀ j, j < 16 → W.cell? (a.add (i * 16 + j)) = (ivl V)[j]? := by
      intro i hi
      obtain ⟨cs', h1, h2⟩ := hel i (by omega)
      rw [hc] at h1
      obtain ⟨V, hV, hbd, rfl⟩ := arr16_list T hT hc h2
      refine ⟨V, hV, hbd, fun j hj => ?_⟩
      unfold World.cells? at h1
      split at h1
      · have := mapM_some_get h1 j j (by simp [hj])
        rw [← this, Addr.add_add]
      · cases h1
    have hex : ∀ i, ∃ V : List Int, V.length = 16 ∧ (∀ i : Nat, -9223372036854775808 ≤ V[i]?.getD 0 ∧ V[i]?.getD 0 ≤ 9223372036854775807) ∧ (i < len → ∀ j, j < 16 → W.cell? (a.add (i * 16 + j)) = (ivl V)[j]?) := by
      intro i
      rcases Nat.lt_or_ge i len with hi | hi
      · obtain ⟨V, h1, h2, h3⟩ := key i hi
        exact ⟨V, h1, h2, fun _ => h3⟩
      · exact ⟨zeros, rfl, fun i => by rw [zeros_get]; omega, fun h => by omega⟩
    obtain ⟨f, hf⟩ := Classical.axiomOfChoice hex
    refine ⟨(List.range len).map f, by simp, vecs_of f (fun i => (hf i).1) len (fun i hi j hj => (hf i).2.2 hi j hj), ?_, by unfold maxLen at hcm; omega⟩
    intro V hV
    obtain ⟨i, -, rfl⟩ := List.mem_map.1 hV
    exact ⟨(hf i).1, (hf i).2.1⟩

end Go.Proofs.Ytilnkfcggfaheaa
