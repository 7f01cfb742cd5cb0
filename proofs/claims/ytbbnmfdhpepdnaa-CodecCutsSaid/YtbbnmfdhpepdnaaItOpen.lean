/-
  How a slice of items that came in is opened.
-/
import Derived.Test.YtbbnmfdhpepdnaaCodCl
import Derived.Test.YtbbnmfdhpepdnaaOpen
import Derived.Deep.Slices
import Derived.Deep.Strs
namespace Go.Proofs.Ytbbnmfdhpepdnaa
open Go.ChangeShapes Go.WideShapes Go.ChangeAt Go.RowKit Go.Deep

theorem trod_num {H : Type} {enc : TypeId × Value → H} {P : Program} {w : World} {base : Nat} {spare : Nat → Bool} {held : Bool} {m : Nat} {t : TypeId} {c : Value} {y : DataW H × List MemPlace}
    (ht : P.underlying t = some (.int .i64)) (h : DataW.trod enc P w base spare held m t [c] = some y) : ∃ n, c = .int .i64 n ∧ (Lit.int .i64 n).wf = true ∧ y.2 = [] := by
  cases m with
  | zero => simp [DataW.trod] at h
  | succ m =>
    unfold DataW.trod at h
    rw [ht] at h
    split at h <;> simp_all
    obtain ⟨⟨rfl, h1⟩, rfl⟩ := h
    rfl
instance : Inhabited Jt := ⟨⟨0, 0, [], none, 0⟩⟩
theorem item_list {H : Type} {enc : TypeId × Value → H} {W : World} {base fuel : Nat} {cs : List Value} {x : DataW H × List MemPlace}
    (h : DataW.trod enc Try.prog W base (fun _ => true) true fuel 33 cs = some x) : ∃ t : Jt, Jok W t ∧ cs = jtc t := by
  have hce : Try.prog.cellsOf 3 = 1 := by kernel_rfl
  have hcb : Try.prog.cellsOf 25 = 1 := by kernel_rfl
  have hci : Try.prog.cellsOf 33 = 3 := by kernel_rfl
  obtain ⟨y0, y1, y2, n, rfl, hl, h0, h1, h2⟩ := trod_struct3 Try.underlying33 h
  rw [hci] at hl
  obtain ⟨v0, v1, v2, rfl⟩ : ∃ v0 v1 v2, cs = [v0, v1, v2] := by
    match cs, hl with
    | [a, b, c], _ => exact ⟨a, b, c, rfl⟩
  dsimp only at h0 h1 h2
  rw [hce] at h0 h1
  rw [hcb] at h2
  simp only [List.drop_zero, List.drop_succ_cons, List.take_succ_cons, List.take_zero] at h0 h1 h2
  obtain ⟨K, hK, hKw, -⟩ := trod_num Try.underlying3 h0
  obtain ⟨N, hN, hNw, -⟩ := trod_num Try.underlying3 h1
  subst hK hN
  rcases open_ints Try.underlying25 Try.underlying5 (by kernel_rfl) h2 with ⟨hcs, _⟩ | ⟨a, l, c, zs, hcs, _, hlc, hm, hz, _, hcell, hwz⟩
  · obtain rfl : v2 = .slice none 0 0 := by simpa using hcs
    exact ⟨⟨K, N, [], none, 0⟩, ⟨row_nil _ _, Nat.le_refl _, Nat.zero_le _, bd_i64 hKw, bd_i64 hNw⟩, rfl⟩
  · obtain rfl : v2 = .slice (some a) l c := by simpa using hcs
    have hz1 : zs.length = c := by simpa using hz
    unfold maxLen at hm
    obtain ⟨xs, e1, e2⟩ := row_of_open (len := l) (by omega) hcell hwz
    refine ⟨⟨K, N, xs, some a, c⟩, ⟨e2, by show xs.length ≤ c; omega, by show c ≤ _; omega, bd_i64 hKw, bd_i64 hNw⟩, ?_⟩
    simp only [jtc]
    rw [e1]
theorem items_of {W : World} {a : Addr} (f : Nat → Jt) : ∀ len : Nat, (∀ i, i < len → ∀ j, j < 3 → W.cell? (a.add (i * 3 + j)) = (jtc (f i))[j]?) → RowV W (some a) (((List.range len).map f).flatMap jtc) := by
  intro len h k hk
  rw [jts_length] at hk
  simp only [List.length_map, List.length_range] at hk
  have hi : ((List.range len).map f)[k / 3]? = some (f (k / 3)) := by rw [List.getElem?_map, List.getElem?_range (by omega)]; rfl
  have hg := jts_get ((List.range len).map f) (k / 3) (k % 3) (f (k / 3)) hi (by omega)
  rw [show 3 * (k / 3) + k % 3 = k by omega] at hg
  have h1 := h (k / 3) (by omega) (k % 3) (by omega)
  rw [show k / 3 * 3 + k % 3 = k by omega] at h1
  obtain ⟨b, off, spot⟩ := a
  have hspot : spot = none := by
    have h0 := h 0 (by omega) 0 (by omega)
    have h0' : (jtc (f 0))[0]? = some (.int .i64 (f 0).k) := rfl
    rw [h0'] at h0
    simpa [Addr.add] using World.cell?_spot h0
  subst hspot
  refine ⟨b, off, rfl, ?_⟩
  rw [hg, ← h1]
  unfold Addr.add
  split
  · rename_i h0; subst h0; rfl
  · rfl
theorem open_items {H : Type} {enc : TypeId × Value → H} {W : World} {base fuel : Nat} {A : Option Addr} {len cap : Nat} {x : DataW H × List MemPlace}
    (h : DataW.trod enc Try.prog W base (fun _ => true) true fuel 31 (Value.slice A len cap).cells.toList = some x) :
    ∃ l : List Jt, l.length = len ∧ JtAt W A l ∧ len ≤ 9223372036854775807 := by
  have hci : Try.prog.cellsOf 33 = 3 := by kernel_rfl
  rcases open_slice Try.underlying31 h with ⟨hcs, _⟩ | ⟨a, l, c, m, n, D, Pl, hcs, hb, hlc, hcm, hm, hx, hel⟩
  · simp [Value.cells] at hcs
    obtain ⟨rfl, rfl, rfl⟩ := hcs
    exact ⟨[], rfl, ⟨RowV.nil _ _, by simp⟩, by omega⟩
  · simp [Value.cells] at hcs
    obtain ⟨rfl, rfl, rfl⟩ := hcs
    have hlm : len ≤ m := by rw [hm]; split <;> omega
    have key : ∀ i, i < len → ∃ t : Jt, Jok W t ∧ ∀ j, j < 3 → W.cell? (a.add (i * 3 + j)) = (jtc t)[j]? := by
      intro i hi
      obtain ⟨cs', h1, h2⟩ := hel i (by omega)
      rw [hci] at h1
      obtain ⟨t, ht, rfl⟩ := item_list h2
      refine ⟨t, ht, fun j hj => ?_⟩
      unfold World.cells? at h1
      split at h1
      · have := mapM_some_get h1 j j (by simp [hj])
        rw [← this, Addr.add_add]
      · cases h1
    obtain ⟨f, hf⟩ := choose_lt key
    refine ⟨(List.range len).map f, by simp, ⟨items_of f len (fun i hi j hj => (hf i hi).2 j hj), ?_⟩, by unfold maxLen at hcm; omega⟩
    intro t ht
    obtain ⟨i, hi, rfl⟩ := List.mem_map.1 ht
    exact (hf i (List.mem_range.1 hi)).1

end Go.Proofs.Ytbbnmfdhpepdnaa
