/-
  CodecAnys: the items of any bytes; the function that reads them again.
-/
import Derived.Test.YtbbnmfdhpepdnaaCodU
import Derived.Test.YtbbnmfdhpepdnaaCodS
import Derived.Test.YtbbnmfdhpepdnaaCodAw
import Derived.Test.YtbbnmfdhpepdnaaReg3
namespace Go.Proofs.Ytbbnmfdhpepdnaa
open Go.RowKit

/-- the items of bytes, read as kinds -/
def itemsT (most : Int) : List Nat → List Nat → List (Nat × Nat × List Nat)
  | [], _ => []
  | k :: ks, xs => match nextT (k % 6) most xs with
    | .error _ => []
    | .ok ((N, bs), ys) => (k % 6, N, bs) :: itemsT most ks ys
/-- what is left behind them, or why not all are there -/
def endT (most : Int) : List Nat → List Nat → Except Nat (List Nat)
  | [], xs => .ok xs
  | k :: ks, xs => match nextT (k % 6) most xs with
    | .error e => .error e
    | .ok (_, ys) => endT most ks ys
theorem itemsT_ok {most : Int} {k : Nat} {ks xs ys bs : List Nat} {N : Nat} (h : nextT (k % 6) most xs = .ok ((N, bs), ys)) : itemsT most (k :: ks) xs = (k % 6, N, bs) :: itemsT most ks ys := by rw [itemsT, h]
theorem itemsT_no {most : Int} {k : Nat} {ks xs : List Nat} {e : Nat} (h : nextT (k % 6) most xs = .error e) : itemsT most (k :: ks) xs = [] := by rw [itemsT, h]
theorem endT_ok {most : Int} {k : Nat} {ks xs ys : List Nat} {t : Nat × List Nat} (h : nextT (k % 6) most xs = .ok (t, ys)) : endT most (k :: ks) xs = endT most ks ys := by rw [endT, h]
theorem endT_no {most : Int} {k : Nat} {ks xs : List Nat} {e : Nat} (h : nextT (k % 6) most xs = .error e) : endT most (k :: ks) xs = .error e := by rw [endT, h]

/-- an item in memory -/
structure It where
  k : Nat
  N : Nat
  bs : List Nat
  A : Option Addr
  c : Nat
def It.key (t : It) : Nat × Nat × List Nat := (t.k, t.N, t.bs)
def itc (t : It) : List Value := [.int .i64 (t.k : Int), .int .i64 (t.N : Int), .slice t.A t.bs.length t.c]
theorem itc_length (t : It) : (itc t).length = 3 := rfl
/-- a slice of items in memory -/
structure ItemsAt (w : World) (A : Option Addr) (l : List It) : Prop where
  row : RowV w A (l.flatMap itc)
  bytes : ∀ t ∈ l, RowU8 w t.A t.bs
theorem ItemsAt.keep {w w' : World} {A : Option Addr} {l : List It} (h : ItemsAt w A l) (hb : Below w.heap.size w w') : ItemsAt w' A l := ⟨h.row.keep hb, fun t ht => (h.bytes t ht).below hb⟩
theorem items_length (l : List It) : (l.flatMap itc).length = 3 * l.length := by
  induction l with
  | nil => rfl
  | cons t l ih => rw [List.flatMap_cons, List.length_append, itc_length, ih, List.length_cons]; omega
theorem items_get : ∀ (l : List It) (k j : Nat) (t : It), l[k]? = some t → j < 3 → (l.flatMap itc)[3 * k + j]? = (itc t)[j]?
  | [], k, j, t, h, _ => by simp at h
  | s :: l, 0, j, t, h, hj => by
    obtain rfl : s = t := by simpa using h
    rw [List.flatMap_cons, List.getElem?_append_left (by rw [itc_length]; omega), Nat.mul_zero, Nat.zero_add]
  | s :: l, k + 1, j, t, h, hj => by
    rw [List.flatMap_cons, List.getElem?_append_right (by rw [itc_length]; omega), itc_length, show 3 * (k + 1) + j - 3 = 3 * k + j by omega]
    exact items_get l k j t (by simpa using h) hj
theorem ItemsAt.range {w : World} {A : Option Addr} {l : List It} (h : ItemsAt w A l) {k : Nat} {t : It} (ht : l[k]? = some t) : ∃ b off, A = some ⟨b, off, none⟩ ∧ w.rangeAt b (off + k * 3) (itc t) := by
  have hk : k < l.length := (List.getElem?_eq_some_iff.1 ht).1
  obtain ⟨b, off, e, hc⟩ := h.row.form (by rw [items_length]; omega)
  refine ⟨b, off, e, fun j v hv => ?_⟩
  have hj : j < 3 := (List.getElem?_eq_some_iff.1 hv).1
  have := hc (3 * k + j) (by rw [items_length]; omega)
  rw [items_get l k j t ht hj, hv] at this
  rw [← this]
  congr 2
  omega

/-- a byte of one's own turned: what lies apart stays -/
theorem Rd.poke {w : World} {g : Nat} {A : Option Addr} {c : Nat} {ys : List Nat} (h : Rd w g A c ys) {p : Addr} (hg : p.block ≠ g) (hap : ys = [] ∨ ∀ a, A = some a → a.block = p.block → p.off < a.off) (hs : p.spot = none) (v : Value) : Rd (w.setCell p v) g A c ys := by
  refine ⟨(heap_setCell_other _ _ _ _ (Ne.symm hg)).trans h.cell, ?_, h.cap, h.big, h.apart, fun a ha => by simpa [World.setCell] using h.old a ha⟩
  refine ⟨h.row.lt, fun h0 => ?_⟩
  obtain ⟨b, off, cur, T, fr, e, hb, hc, hf⟩ := h.row.blk h0
  have hap' : b = p.block → p.off < off := fun eb => by
    rcases hap with h1 | h1
    · rw [h1] at h0; cases h0
    · exact h1 _ e eb
  by_cases eb : b = p.block
  · subst eb
    have hlt := hap' rfl
    refine ⟨p.block, off, cur.setIfInBounds p.off v, T, fr, e, ?_, fun i hi => ?_, hf⟩
    · obtain ⟨pb, po, ps⟩ := p
      subst hs
      have := setCell_eq_setRow w pb po cur T fr v hb
      rw [this]
      exact setRow_heap w pb cur _ T fr hb
    · rw [Array.getElem?_setIfInBounds, if_neg (by omega)]
      exact hc i hi
  · exact ⟨b, off, cur, T, fr, e, (heap_setCell_other _ _ _ _ eb).trans hb, hc, hf⟩
/-- the cells of bytes that may be written, one turned -/
theorem RowB.cellAt {w : World} {A : Option Addr} {xs : List Nat} (h : RowB w A xs) (i : Nat) (hi : i < xs.length) : ∃ b off, A = some ⟨b, off, none⟩ ∧ w.cell? ⟨b, off + i, none⟩ = some (.int .u8 (xs[i]?.getD 0 : Nat)) ∧ w.frozen? ⟨b, off + i, none⟩ = false := by
  obtain ⟨b, off, cur, T, fr, e, hb, hc, hf⟩ := h.blk (by omega)
  refine ⟨b, off, e, by rw [cell_of_row _ _ _ _ _ _ hb]; exact hc i hi, ?_⟩
  have := hf i hi
  unfold World.frozen?
  simp only [hb]
  rw [Bool.and_eq_false_iff]
  by_cases h1 : fr.1 ≤ off + i
  · right; simp; omega
  · left; simpa using h1
theorem RowB.set {w : World} {A : Option Addr} {xs : List Nat} (h : RowB w A xs) {b off : Nat} (e : A = some ⟨b, off, none⟩) {i v : Nat} (hi : i < xs.length) (hv : v < 256) : RowB (w.setCell ⟨b, off + i, none⟩ (.int .u8 (v : Int))) A (xs.set i v) := by
  refine ⟨fun x hx => ?_, fun h0 => ?_⟩
  · rcases List.mem_or_eq_of_mem_set hx with h1 | h1
    · exact h.lt x h1
    · omega
  · obtain ⟨b', off', cur, T, fr, e', hb, hc, hf⟩ := h.blk (by omega)
    rw [e] at e'
    cases e'
    refine ⟨b, off, cur.setIfInBounds (off + i) (.int .u8 (v : Int)), T, fr, e, ?_, fun j hj => ?_, fun j hj => hf j (by simpa using hj)⟩
    · rw [setCell_eq_setRow w b (off + i) cur T fr _ hb]
      exact setRow_heap w b cur _ T fr hb
    · rw [List.length_set] at hj
      have hlt : off + i < cur.size := by
        have := hc i hi
        exact (Array.getElem?_eq_some_iff.1 this).1
      rw [Array.getElem?_setIfInBounds, List.getElem?_set]
      by_cases ej : i = j
      · subst ej
        rw [if_pos rfl, if_pos hlt, if_pos rfl, if_pos hi]
        rfl
      · rw [if_neg (by omega), if_neg ej]
        exact hc j hj

end Go.Proofs.Ytbbnmfdhpepdnaa
