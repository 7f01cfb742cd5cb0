/-
  Slices in memory read as lists; appends, makes and conversions of slices of bytes, met by equations and by laws of the walk.
-/
import Derived.Test.YtbbnmfdhpepdnaaProg
import Derived.WalkKit
import Derived.WalkSpells
import Derived.WalkLawsBesides
import Derived.Deep.QuietTactic
import Derived.BigQuiet
import Derived.Lib.Hide
namespace Go.Proofs.Ytbbnmfdhpepdnaa
open Go.RowKit

theorem below_drewN {B : Nat} {a w : World} (h : Below B a w) (n : Nat) : Below B a (w.drewN n) := ⟨h.os, h.tape, h.output, h.size, h.block⟩
theorem plain_add (b off j : Nat) : (⟨b, off, none⟩ : Addr).add j = ⟨b, off + j, none⟩ := by unfold Addr.add; split <;> simp_all

/-! ## cells as lists of values -/
/-- the cells from an address on read as a list of values (the address is not asked for where the list is empty) -/
def RowV (w : World) (A : Option Addr) (vs : List Value) : Prop :=
  ∀ j, j < vs.length → ∃ b off, A = some ⟨b, off, none⟩ ∧ w.cell? ⟨b, off + j, none⟩ = vs[j]?

theorem RowV.nil (w : World) (A : Option Addr) : RowV w A [] := fun j h => by simp at h
theorem RowV.form {w : World} {A : Option Addr} {vs : List Value} (h : RowV w A vs) (h0 : 0 < vs.length) :
    ∃ b off, A = some ⟨b, off, none⟩ ∧ ∀ j, j < vs.length → w.cell? ⟨b, off + j, none⟩ = vs[j]? := by
  obtain ⟨b, off, rfl, _⟩ := h 0 h0
  refine ⟨b, off, rfl, fun j hj => ?_⟩
  obtain ⟨b', off', e, hc⟩ := h j hj
  injection e with e
  injection e with e1 e2
  subst e1; subst e2
  exact hc
theorem RowV.old {w : World} {A : Option Addr} {vs : List Value} (h : RowV w A vs) {b off : Nat} (hA : A = some ⟨b, off, none⟩) (h0 : 0 < vs.length) : b < w.heap.size := by
  obtain ⟨b', off', e, hc⟩ := h 0 h0
  rw [hA] at e
  injection e with e
  injection e with e1 e2
  subst e1
  rw [List.getElem?_eq_getElem h0] at hc
  exact block_lt_of_cell hc
theorem RowV.keep {w w' : World} {A : Option Addr} {vs : List Value} (h : RowV w A vs) (hb : Below w.heap.size w w') : RowV w' A vs := by
  intro j hj
  obtain ⟨b, off, e, hc⟩ := h j hj
  refine ⟨b, off, e, ?_⟩
  rw [← hc]
  exact hb.cell (p := ⟨b, off + j, none⟩) (h.old e (by omega))
theorem RowV.of_block {w : World} {g : Nat} {cs : Array Value} {t : TypeId} {fr : Nat × Nat} (h : w.heap[g]? = some (.cells cs t fr)) (n : Nat) : RowV w (some ⟨g, 0, none⟩) (cs.toList.take n) := by
  intro j hj
  refine ⟨g, 0, rfl, ?_⟩
  rw [Nat.zero_add, cell_of_row _ _ _ _ _ _ h, List.getElem?_take, if_pos (by simp at hj; omega)]
  simp
theorem RowV.of_own {w : World} {base : Nat} {e : TypeId} {size : Nat} {A : Option Addr} {n c : Nat} {xs : List Value} (h : w.ownsRow base e size (.slice A n c) n xs) : RowV w A xs := by
  rcases h.2 with ⟨_, h0⟩ | ⟨g, cap, cur, hv, _, hg, _, _, _, ht⟩
  · subst h0
    have : xs = [] := List.eq_nil_of_length_eq_zero (by simpa using h.1)
    subst this
    exact RowV.nil w A
  · injection hv with hA
    subst hA
    rw [← ht]
    exact RowV.of_block hg _

/-- an own row's value, in the form of a slice -/
theorem own_slice {w : World} {base : Nat} {e : TypeId} {size : Nat} {v : Value} {n : Nat} {xs : List Value} (h : w.ownsRow base e size v n xs) :
    ∃ A c, v = .slice A n c ∧ n ≤ c ∧ c ≤ maxLen ∧ (A = none → c = 0) := by
  rcases h.2 with ⟨rfl, rfl⟩ | ⟨g, cap, cur, rfl, _, _, h1, h2, _⟩
  · exact ⟨none, 0, rfl, by omega, by simp [maxLen], fun _ => rfl⟩
  · exact ⟨_, cap, rfl, h1, h2, fun h => by cases h⟩

section
variable {P : Program} (w : World)

/-- append of whatever reads as a list onto a row of the call's own -/
theorem run_append_rowv (base : Nat) (t ty e : TypeId) (i : TypeInfo) (z : Value) (size bytes : Nat) (ht : P.underlying t = some (.slice e)) (hi : P.info? e = some i) (hz : i.zero = some z)
    (hsize : i.size = size) (hby : i.bytes = bytes) (hzs : z.cells.size = size) (hsz : 0 < size)
    (v : Value) (n : Nat) (xs : List Value) (hown : w.ownsRow base e size v n xs)
    (A : Option Addr) (m c : Nat) (news : List Value) (hr : RowV w A news) (hl : news.length = m * size) (h1 : ∀ u ∈ news, u.oneCell' = true)
    (h63 : n + m ≤ maxLen) (hbytes : (n + m) * bytes ≤ 140737488355328) (hbase : base ≤ w.heap.size) :
    ∃ A' c' w', (Builtin.append_ #[t, t] ty #[v, .slice A m c]).run P w = .ok (.slice A' (n + m) c') w' ∧ w'.ownsRow base e size (.slice A' (n + m) c') (n + m) (xs ++ news) ∧ w.grownBy w' v.ownBlock := by
  suffices hs : ∃ v' w', (Builtin.append_ #[t, t] ty #[v, .slice A m c]).run P w = .ok v' w' ∧ w'.ownsRow base e size v' (n + m) (xs ++ news) ∧ w.grownBy w' v.ownBlock by
    obtain ⟨v', w', h1, h2, h3⟩ := hs
    obtain ⟨A', c', rfl, _⟩ := own_slice h2
    exact ⟨A', c', w', h1, h2, h3⟩
  rcases A with _ | ad
  · have hm : m = 0 := by
      rcases Nat.eq_zero_or_pos m with h0 | h0
      · exact h0
      · obtain ⟨_, _, h, _⟩ := hr 0 (by rw [hl]; exact Nat.mul_pos h0 hsz)
        cases h
    subst hm
    have hn : news = [] := List.eq_nil_of_length_eq_zero (by simpa using hl)
    subst hn
    refine ⟨v, w, ?_, by simpa using hown, World.grownBy.refl w _⟩
    rcases hown.2 with ⟨rfl, rfl⟩ | ⟨g, cap, cur, rfl, _, _, hnc, _⟩
    · simp [Builtin.append_, run_underlying ht, sizeOf, typeInfo, hi, Builtin.lenOf, Builtin.firstCells]
    · simp [Builtin.append_, run_underlying ht, sizeOf, typeInfo, hi, Builtin.lenOf, Builtin.firstCells, hnc, storeCells]
  · have hnews : ∀ j u, news[j]? = some u → w.cell? (ad.add j) = some u := by
      intro j u hu
      have hj : j < news.length := by
        rcases Nat.lt_or_ge j news.length with h | h
        · exact h
        · rw [List.getElem?_eq_none h] at hu; cases hu
      obtain ⟨b, off, e, hc⟩ := hr j hj
      injection e with e
      subst e
      rw [plain_add, hc, hu]
    obtain ⟨v', w', hrun, h2, h3, _⟩ := run_append_own (P := P) w base t ty e i z size bytes ht hi hz hsize hby hzs hsz v n xs hown ad m c news hl hnews h1 h63 hbytes hbase
    exact ⟨v', w', hrun, h2, h3⟩

theorem wp_append_rowv {o : Oper} {a : Act} {K : Act → World → Prop} {Q : Exit → Act → World → Prop} (s x : Operand) (t : TypeId)
    (ho : o.op = .call { callee := .builtin .append, args := #[s, x], argTypes := #[t, t] })
    (base : Nat) (e : TypeId) (i : TypeInfo) (z : Value) (size bytes : Nat) (ht : P.underlying t = some (.slice e)) (hi : P.info? e = some i) (hz : i.zero = some z)
    (hsize : i.size = size) (hby : i.bytes = bytes) (hzs : z.cells.size = size) (hsz : 0 < size)
    (v : Value) (n : Nat) (xs : List Value) (hs : a.eval s = v) (hown : w.ownsRow base e size v n xs)
    (A : Option Addr) (m c : Nat) (news : List Value) (hx : a.eval x = .slice A m c) (hr : RowV w A news) (hl : news.length = m * size) (h1 : ∀ u ∈ news, u.oneCell' = true)
    (h63 : n + m ≤ maxLen) (hbytes : (n + m) * bytes ≤ 140737488355328) (hbase : base ≤ w.heap.size)
    (h : ∀ A' c' w', w'.ownsRow base e size (.slice A' (n + m) c') (n + m) (xs ++ news) → w.grownBy w' v.ownBlock → K (a.put o.dst (.slice A' (n + m) c')) w') : o.wp P a w K Q := by
  obtain ⟨A', c', w', hrun, h2, h3⟩ := run_append_rowv (P := P) w base t o.type e i z size bytes ht hi hz hsize hby hzs hsz v n xs hown A m c news hr hl h1 h63 hbytes hbase
  unfold Oper.wp execOp
  simp only [ho, resolve, invoke, builtin, Sem.run_bind, Sem.run_pure, Result.andThen_ok, List.map_toArray, List.map_cons, List.map_nil, hs, hx, hrun]
  exact h A' c' w' h2 h3

theorem wpList_append_rowv {ops : Array Oper} {rest : List Oper} {o : Oper} {a : Act} {Q : Exit → Act → World → Prop} (hgd : o.guard = none) (s x : Operand) (t : TypeId)
    (ho : o.op = .call { callee := .builtin .append, args := #[s, x], argTypes := #[t, t] })
    (base : Nat) (e : TypeId) (i : TypeInfo) (z : Value) (size bytes : Nat) (ht : P.underlying t = some (.slice e)) (hi : P.info? e = some i) (hz : i.zero = some z)
    (hsize : i.size = size) (hby : i.bytes = bytes) (hzs : z.cells.size = size) (hsz : 0 < size)
    (v : Value) (n : Nat) (xs : List Value) (hs : a.eval s = v) (hown : w.ownsRow base e size v n xs)
    (A : Option Addr) (m c : Nat) (news : List Value) (hx : a.eval x = .slice A m c) (hr : RowV w A news) (hl : news.length = m * size) (h1 : ∀ u ∈ news, u.oneCell' = true)
    (h63 : n + m ≤ maxLen) (hbytes : (n + m) * bytes ≤ 140737488355328) (hbase : base ≤ w.heap.size)
    (h : ∀ A' c' w', w'.ownsRow base e size (.slice A' (n + m) c') (n + m) (xs ++ news) → w.grownBy w' v.ownBlock → wpList P ops Q rest (a.put o.dst (.slice A' (n + m) c')) w') : wpList P ops Q (o :: rest) a w :=
  wpList_plain hgd fun _ hK => wp_append_rowv w s x t ho base e i z size bytes ht hi hz hsize hby hzs hsz v n xs hs hown A m c news hx hr hl h1 h63 hbytes hbase fun A' c' w' h2 h3 => hK _ _ (h A' c' w' h2 h3)

theorem step_append_rowv {ops : Array Oper} {o : Oper} {a : Act} {K : Act → World → Prop} {Q : Exit → Act → World → Prop} {E : Prop} (hgd : o.guard = none) (s x : Operand) (t : TypeId)
    (ho : o.op = .call { callee := .builtin .append, args := #[s, x], argTypes := #[t, t] })
    (base : Nat) (e : TypeId) (i : TypeInfo) (z : Value) (size bytes : Nat) (ht : P.underlying t = some (.slice e)) (hi : P.info? e = some i) (hz : i.zero = some z)
    (hsize : i.size = size) (hby : i.bytes = bytes) (hzs : z.cells.size = size) (hsz : 0 < size)
    (v : Value) (n : Nat) (xs : List Value) (hs : a.eval s = v) (hown : w.ownsRow base e size v n xs)
    (A : Option Addr) (m c : Nat) (news : List Value) (hx : a.eval x = .slice A m c) (hr : RowV w A news) (hl : news.length = m * size) (h1 : ∀ u ∈ news, u.oneCell' = true)
    (h63 : n + m ≤ maxLen) (hbytes : (n + m) * bytes ≤ 140737488355328) (hbase : base ≤ w.heap.size)
    (h : ∀ A' c' w', w'.ownsRow base e size (.slice A' (n + m) c') (n + m) (xs ++ news) → w.grownBy w' v.ownBlock → K (a.put o.dst (.slice A' (n + m) c')) w') :
    if Region.wanted o (yielded ops a.tmps) = true then Oper.wp P o a w K Q else E := by
  have hw : Region.wanted o (yielded ops a.tmps) = true := by simp [Region.wanted, hgd]
  rw [if_pos hw]
  exact wp_append_rowv w s x t ho base e i z size bytes ht hi hz hsize hby hzs hsz v n xs hs hown A m c news hx hr hl h1 h63 hbytes hbase h
end

/-! ## slices of bytes -/
/-- a slice of bytes in memory reads as a list of numbers -/
structure RowU8 (w : World) (A : Option Addr) (xs : List Nat) : Prop where
  lt : ∀ x ∈ xs, x < 256
  at_ : ∀ i, i < xs.length → ∃ b off, A = some ⟨b, off, none⟩ ∧ w.cell? ⟨b, off + i, none⟩ = some (.int .u8 (xs[i]?.getD 0 : Nat))

theorem RowU8.form {w : World} {A : Option Addr} {xs : List Nat} (h : RowU8 w A xs) (h0 : 0 < xs.length) :
    ∃ b off, A = some ⟨b, off, none⟩ ∧ ∀ i, i < xs.length → w.cell? ⟨b, off + i, none⟩ = some (.int .u8 (xs[i]?.getD 0 : Nat)) := by
  obtain ⟨b, off, rfl, _⟩ := h.at_ 0 h0
  refine ⟨b, off, rfl, fun i hi => ?_⟩
  obtain ⟨b', off', e, hc⟩ := h.at_ i hi
  injection e with e
  injection e with e1 e2
  subst e1; subst e2
  exact hc

theorem getD_lt {xs : List Nat} (h : ∀ x ∈ xs, x < 256) (i : Nat) : xs[i]?.getD 0 < 256 := by
  rcases Nat.lt_or_ge i xs.length with hi | hi
  · rw [List.getElem?_eq_getElem hi]; exact h _ (List.getElem_mem hi)
  · rw [List.getElem?_eq_none hi]; decide

theorem RowU8.below {w w' : World} {A : Option Addr} {xs : List Nat} (h : RowU8 w A xs) (hb : Below w.heap.size w w') : RowU8 w' A xs := by
  refine ⟨h.lt, fun i hi => ?_⟩
  obtain ⟨b, off, e, hc⟩ := h.at_ i hi
  exact ⟨b, off, e, (hb.cell (p := ⟨b, off + i, none⟩) (block_lt_of_cell hc)).trans hc⟩
theorem row_nil (w : World) (A : Option Addr) : RowU8 w A [] := ⟨by simp, by simp⟩

/-- numbers as values -/
def u8v (ys : List Nat) : List Value := ys.map fun y => Value.int .u8 (y : Nat)
/-- numbers as cells -/
def u8s (ys : List Nat) : Array Value := (ys.map fun y => Value.int .u8 (y : Nat)).toArray
theorem u8v_length (ys : List Nat) : (u8v ys).length = ys.length := by simp [u8v]
theorem u8v_append (xs ys : List Nat) : u8v (xs ++ ys) = u8v xs ++ u8v ys := by simp [u8v]
theorem u8v_get (ys : List Nat) (i : Nat) (h : i < ys.length) : (u8v ys)[i]? = some (.int .u8 (ys[i]?.getD 0 : Nat)) := by
  simp [u8v, List.getElem?_eq_getElem h]
theorem u8v_one (ys : List Nat) : ∀ u ∈ u8v ys, u.oneCell' = true := by
  intro u hu
  obtain ⟨y, _, rfl⟩ := List.mem_map.1 hu
  rfl
theorem u8s_size (ys : List Nat) : (u8s ys).size = ys.length := by simp [u8s]
theorem u8s_get (ys : List Nat) (i : Nat) (h : i < ys.length) : (u8s ys)[i]? = some (.int .u8 (ys[i]?.getD 0 : Nat)) := by
  simp [u8s, List.getElem?_eq_getElem h]
theorem row_of_block {w : World} {g : Nat} {t : TypeId} {fr : Nat × Nat} {ys : List Nat} (h : w.heap[g]? = some (.cells (u8s ys) t fr)) (hl : ∀ y ∈ ys, y < 256) : RowU8 w (some ⟨g, 0, none⟩) ys := by
  refine ⟨hl, fun i hi => ⟨g, 0, rfl, ?_⟩⟩
  rw [Nat.zero_add, cell_of_row _ _ _ _ _ _ h, u8s_get _ _ hi]
theorem RowU8.rowv {w : World} {A : Option Addr} {xs : List Nat} (h : RowU8 w A xs) : RowV w A (u8v xs) := by
  intro j hj
  rw [u8v_length] at hj
  obtain ⟨b, off, e, hc⟩ := h.at_ j hj
  exact ⟨b, off, e, by rw [hc, u8v_get _ _ hj]⟩
theorem RowV.row {w : World} {A : Option Addr} {xs : List Nat} (h : RowV w A (u8v xs)) (hl : ∀ y ∈ xs, y < 256) : RowU8 w A xs := by
  refine ⟨hl, fun i hi => ?_⟩
  obtain ⟨b, off, e, hc⟩ := h i (by rw [u8v_length]; exact hi)
  exact ⟨b, off, e, by rw [hc, u8v_get _ _ hi]⟩

/-- the first k of n numbers are there, the rest is 0 -/
def fillr (n : Nat) (f : Nat → Nat) (k : Nat) : List Nat := (List.range n).map fun i => if i < k then f i else 0
theorem fillr_length (n : Nat) (f : Nat → Nat) (k : Nat) : (fillr n f k).length = n := by simp [fillr]
theorem fillr_set (n : Nat) (f : Nat → Nat) (k : Nat) (h : k < n) : (u8s (fillr n f k)).setIfInBounds k (.int .u8 (f k : Nat)) = u8s (fillr n f (k + 1)) := by
  apply Array.ext_getElem?
  intro i
  rw [Array.getElem?_setIfInBounds]
  by_cases hi : k = i
  · subst hi
    rw [if_pos rfl, u8s_size, fillr_length, if_pos h, u8s_get _ _ (by rw [fillr_length]; exact h)]
    simp [fillr, h]
  · rw [if_neg hi]
    rcases Nat.lt_or_ge i n with h | h
    · rw [u8s_get _ _ (by rw [fillr_length]; exact h), u8s_get _ _ (by rw [fillr_length]; exact h)]
      have : (i < k) = (i < k + 1) := by apply propext; omega
      simp [fillr, h, this]
    · rw [Array.getElem?_eq_none (by rw [u8s_size, fillr_length]; exact h), Array.getElem?_eq_none (by rw [u8s_size, fillr_length]; exact h)]
theorem fillr_full (n : Nat) (f : Nat → Nat) : fillr n f n = (List.range n).map f := by
  apply List.map_congr_left
  intro i hi
  rw [if_pos (List.mem_range.1 hi)]
theorem range_map_get (xs : List Nat) (f : Nat → Nat) : (List.range xs.length).map (fun i => f (xs[i]?.getD 0)) = xs.map f := by
  apply List.ext_getElem?
  intro i
  rcases Nat.lt_or_ge i xs.length with h | h
  · simp [h]
  · rw [List.getElem?_eq_none (by simpa using h), List.getElem?_eq_none (by simpa using h)]

theorem Try.infoByte : (Try.prog.info? 5).map (fun i => (i.zero, i.size, i.bytes)) = some (some (.int .u8 0), 1, 1) := by kernel_rfl

theorem make_bytes (n : Nat) (f : Nat → Nat) (hn : n ≤ 281474976710656) (w : World) :
    (Instr.makeSlice 25 (.int .i64 (n : Int)) (.int .i64 (n : Int))).run Try.prog w = .ok (.slice (some ⟨w.heap.size, 0, none⟩) n n) (w.alloc (.cells (u8s (fillr n f 0)) 5)) := by
  obtain ⟨i0, hi, hz0, hz1, hz2⟩ := info_parts Try.infoByte
  have hr := run_make (P := Try.prog) w 25 5 i0 (.int .u8 0) Try.underlying25 hi hz0 .i64 .i64 n n (by omega) (by omega) (by rw [hz2]; omega) (by omega)
  simp only [Int.toNat_natCast] at hr
  rw [hr, hz1, Nat.mul_one]
  congr 2
  congr 1
  apply Array.ext_getElem?
  intro i
  rcases Nat.lt_or_ge i n with h | h
  · rw [u8s_get _ _ (by rw [fillr_length]; exact h)]
    simp [madeCells, fillr, h, Value.cells, Nat.mod_one]
  · rw [Array.getElem?_eq_none (by rw [size_madeCells]; exact h), Array.getElem?_eq_none (by rw [u8s_size, fillr_length]; exact h)]

/-! ## bytes as a string -/
/-- numbers as the bytes of a string -/
def bstr (xs : List Nat) : ByteArray := strOfNums (xs.map Int.ofNat)
theorem bstr_toList (xs : List Nat) : (bstr xs).data.toList = xs.map UInt8.ofNat := by
  unfold bstr
  rw [strOfNums_data, List.map_map]
  rfl
theorem bstr_size (xs : List Nat) : (bstr xs).size = xs.length := by unfold bstr; rw [strOfNums_size]; simp
theorem bstr_inj {xs ys : List Nat} (hx : ∀ x ∈ xs, x < 256) (hy : ∀ y ∈ ys, y < 256) (h : bstr xs = bstr ys) : xs = ys := by
  have e : xs.map UInt8.ofNat = ys.map UInt8.ofNat := by rw [← bstr_toList, ← bstr_toList, h]
  have r : ∀ l : List Nat, (∀ x ∈ l, x < 256) → (l.map UInt8.ofNat).map UInt8.toNat = l := by
    intro l hl
    rw [List.map_map]
    conv => rhs; rw [← List.map_id l]
    apply List.map_congr_left
    intro x hx
    exact Nat.mod_eq_of_lt (hl x hx)
  rw [← r xs hx, ← r ys hy, e]
theorem conv_bytes {P : Program} {w : World} {A : Option Addr} {xs : List Nat} (src e dst : TypeId) (hs : P.underlying src = some (.slice e)) (he : P.underlying e = some (.int .u8)) (hd : P.underlying dst = some .string)
    (h : RowU8 w A xs) (c : Nat) : (convert src dst (.slice A xs.length c)).run P w = .ok (.string (bstr xs)) w := by
  rcases Nat.eq_zero_or_pos xs.length with h0 | h0
  · have : xs = [] := List.eq_nil_of_length_eq_zero h0
    subst this
    rw [run_convert_bytes_string w src dst e _ _ _ hs he hd]
    rcases A with _ | ad
    · simp [Conv.bytesToString, bstr, strOfNums]; rfl
    · rw [show ([] : List Nat).length = 0 from rfl, run_bytesToString w ad 0 c [] (by simp [loadCells, loadCellsFrom]), foldl_push_bytes]
      simp [bstr, strOfNums]
  · obtain ⟨b, off, rfl, hc⟩ := h.form h0
    refine run_convert_bytes_arg w src e hs he b off xs.length c (xs.map Int.ofNat) (by simp) (fun i hi => ?_) dst hd
    rw [hc i hi]
    simp [List.getD_eq_getElem?_getD, List.getElem?_eq_getElem hi]
theorem str_of (w : World) (A : Option Addr) (xs : List Nat) (h : RowU8 w A xs) (c : Nat) : (convert 25 9 (.slice A xs.length c)).run Try.prog w = .ok (.string (bstr xs)) w :=
  conv_bytes 25 5 9 Try.underlying25 Try.underlying5 Try.underlying9 h c

end Go.Proofs.Ytbbnmfdhpepdnaa
