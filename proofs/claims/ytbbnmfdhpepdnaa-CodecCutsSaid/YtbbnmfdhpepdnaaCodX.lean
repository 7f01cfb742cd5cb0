/-
  The next item of a kind.
-/
import Derived.Test.YtbbnmfdhpepdnaaCodD
import Derived.Lib.ConvBytes
namespace Go.Proofs.Ytbbnmfdhpepdnaa
open Go.RowKit

/-- an item of a kind: a number, bytes; and what is left -/
def nextT (k : Nat) (most : Int) (xs : List Nat) : Except Nat ((Nat × List Nat) × List Nat) :=
  if k = 1 ∨ k = 2 then (match bytesT most xs with | .error e => .error e | .ok (bs, ys) => .ok ((0, bs), ys))
  else if k = 3 then (match truthT xs with | .error e => .error e | .ok (b, ys) => .ok ((if b then 1 else 0, []), ys))
  else if k = 4 then (match takeT 32 xs with | .error e => .error e | .ok (bs, ys) => .ok ((0, bs), ys))
  else (match numT most 0 0 xs with | .error e => .error e | .ok (v, ys) => .ok ((v, []), ys))
/-- bytes that lie apart from those that are left -/
def Ahead (A1 : Option Addr) (n : Nat) (A2 : Option Addr) (ys : List Nat) : Prop := ys = [] ∨ ∀ a1 a2, A1 = some a1 → A2 = some a2 → a1.block = a2.block → a1.off + n ≤ a2.off
def NxPost (k g : Nat) (A0 : Option Addr) (w : World) (r : Except Nat ((Nat × List Nat) × List Nat)) (e : Ending) (w' : World) : Prop :=
  Kp (fun k => k ≠ g) w w' ∧ match r with
    | .ok ((N, bs), ys) => ∃ A1 c1 A2 c2, e = .returned (.agg #[.int .i64 (k : Int), .int .i64 (N : Int), .slice A1 bs.length c1]) ∧ RowB w' A1 bs ∧ Rd w' g A2 c2 ys ∧ SameB A0 A2 ∧
        (∀ a, A1 = some a → a.block ≠ g ∧ ((∃ q, A0 = some q ∧ q.block = a.block) ∨ w.heap.size ≤ a.block)) ∧ Ahead A1 bs.length A2 ys
    | .error code => e = .panicked (thrown g (code : Int))
def item0 (k : Int) : Array Value := #[.int .i64 k, .int .i64 0, .slice none 0 0]
theorem run_zero_item (w : World) : (zeroValue 33).run Try.prog w = .ok (.agg (item0 0)) w := by kernel_rfl
theorem info_item : (Try.prog.info? 33).map (·.size) = some 3 := by kernel_rfl

theorem item_one (k N : Int) (A : Option Addr) (n c : Nat) : (#[Value.int .i64 k, .int .i64 N, .slice A n c]).all (·.oneCell') = true := by simp [Value.oneCell']

theorem ahead_of {A1 A2 : Option Addr} {n c1 : Nat} {ys : List Nat} (h : A2 = A1.map (·.add n) ∨ (A2 = A1 ∧ n = c1 ∧ ys = [])) : Ahead A1 n A2 ys := by
  rcases h with rfl | ⟨_, _, h⟩
  · right
    intro a1 a2 h1 h2 _
    rw [h1] at h2
    have e : a1.add n = a2 := by simpa using h2
    rw [← e]
    unfold Addr.add
    split
    · omega
    · exact Nat.le_refl _
  · exact .inl h
/-- the end of 'next': a cell of the item is laid, then the item is handed back -/
theorem nx_ok {k g N : Nat} {A A1 A2 : Option Addr} {c1 c2 : Nat} {bs ys : List Nat} {w w1 w2 : World} {r : Except Nat ((Nat × List Nat) × List Nat)} (hE : r = .ok ((N, bs), ys)) (hk : Kp (fun k => k ≠ g) w w1) (hk2 : Kp (fun k => k ≠ w.heap.size + 1) w1 w2)
    (hg : g < w.heap.size) (hold : ∀ a, A = some a → a.block < w.heap.size) (hrd : Rd w1 g A2 c2 ys) (hsb : SameB A A2) (hrow : RowB w1 A1 bs)
    (hA1 : ∀ a, A1 = some a → a.block ≠ g ∧ ((∃ q, A = some q ∧ q.block = a.block) ∨ w.heap.size + 2 ≤ a.block)) (hah : Ahead A1 bs.length A2 ys) (cs : Array Value) :
    NxPost k g A w r (.returned (.agg #[.int .i64 (k : Int), .int .i64 (N : Int), .slice A1 bs.length c1])) (w2.setRow w.heap.size cs) := by
  have hh : ∀ j, j < w1.heap.size → j ≠ w.heap.size → j ≠ w.heap.size + 1 → (w2.setRow w.heap.size cs).heap[j]? = w1.heap[j]? := fun j hj h1 h2 =>
    (heap_setRow_other _ _ _ _ h1).trans (hk2.block j hj h2)
  have hsz : (w2.setRow w.heap.size cs).heap.size = w2.heap.size := by simp
  have hgl := (Array.getElem?_eq_some_iff.1 hrd.cell).1
  refine ⟨⟨hk2.os.trans hk.os, hk2.tape.trans hk.tape, hk2.output.trans hk.output, by rw [hsz]; exact Nat.le_trans hk.size hk2.size, fun j hj hjg => (hh j (Nat.lt_of_lt_of_le hj hk.size) (by omega) (by omega)).trans (hk.block j hj hjg)⟩, ?_⟩
  rw [hE]
  refine ⟨A1, c1, A2, c2, rfl, hrow.move (fun a ha hl => hh _ hl ?_ ?_), hrd.move (by rw [hsz]; exact hk2.size) (hh _ hgl (by omega) (by omega)) (fun a ha hl => hh _ hl ?_ ?_), hsb, fun a ha => ⟨(hA1 a ha).1, ?_⟩, hah⟩
  · rcases (hA1 a ha).2 with ⟨q, hq, e⟩ | h
    · have := hold q hq; omega
    · omega
  · rcases (hA1 a ha).2 with ⟨q, hq, e⟩ | h
    · have := hold q hq; omega
    · omega
  · obtain ⟨q, hq, e⟩ := hsb a ha
    have := hold q hq; omega
  · obtain ⟨q, hq, e⟩ := hsb a ha
    have := hold q hq; omega
  · rcases (hA1 a ha).2 with h | h
    · exact .inl h
    · exact .inr (by omega)

/-- a string's bytes, in a new block -/
theorem str_row (w : World) (bs : List Nat) (hl : ∀ x ∈ bs, x < 256) : RowB (Lib.bytesWorld w 5 (bstr bs)) (some ⟨w.heap.size, 0, none⟩) bs :=
  ⟨hl, fun h0 => by
    refine ⟨w.heap.size, 0, _, _, _, rfl, Lib.bytesWorld_at_new w _ _, fun i hi => ?_, fun i hi hh => ?_⟩
    · unfold Lib.bytesCells
      have hz : (bstr bs).data.size = bs.length := bstr_size bs
      rw [Nat.zero_add, Array.getElem?_append_left (by simp [hz]; exact hi), Array.getElem?_map]
      have e : (bstr bs).data[i]? = some (UInt8.ofNat (bs[i]?.getD 0)) := by
        rw [← Array.getElem?_toList, bstr_toList, List.getElem?_map, List.getElem?_eq_getElem hi]
        rfl
      rw [e]
      have hx : bs[i]?.getD 0 < 256 := getD_lt hl i
      have e2 : (UInt8.ofNat (bs[i]?.getD 0)).toNat = bs[i]?.getD 0 := Nat.mod_eq_of_lt hx
      simp [e2]
    · have hz : (bstr bs).data.size = bs.length := bstr_size bs
      have := hh.1
      simp [Lib.bytesCells, hz] at this
      omega⟩
theorem str_world (w : World) (bs : List Nat) (K : Nat → Prop) : Kp K w (Lib.bytesWorld w 5 (bstr bs)) ∧ (Lib.bytesWorld w 5 (bstr bs)).heap.size = w.heap.size + 1 :=
  ⟨⟨rfl, rfl, rfl, by rw [Lib.bytesWorld_size]; omega, fun k hk _ => Lib.bytesWorld_at_old w _ _ k hk⟩, Lib.bytesWorld_size w _ _⟩
theorem conv_str (w : World) (bs : List Nat) : (convert 9 25 (.string (bstr bs))).run Try.prog w = .ok (.slice (some ⟨w.heap.size, 0, none⟩) bs.length (grownCap w (bstr bs).size 0 5)) (Lib.bytesWorld w 5 (bstr bs)) := by
  rw [Lib.run_convert_string_bytes w _ _ _ _ Try.underlying9 Try.underlying25 Try.underlying5, bstr_size]

set_option maxRecDepth 100000 in
set_option maxHeartbeats 1000000 in
theorem next_0 (g : Nat) (A : Option Addr) (c : Nat) (xs : List Nat) (most : Int) (w : World) (h : Rd w g A c xs) :
    Calls Try.prog 15 #[.pointer (some ⟨g, 0, none⟩), .int .i64 0, .int .i64 most] w (NxPost 0 g A w (nextT 0 most xs)) := by
  have hz := run_zero_item
  obtain ⟨W, hW⟩ : ∃ W, (w.alloc (Obj.cells (item0 0) 33)).alloc (Obj.cells (item0 0) 33) = W := ⟨_, rfl⟩
  have hset : ((w.alloc (Obj.cells (item0 0) 33)).alloc (Obj.cells (item0 0) 33)).setRow (w.heap.size + 1) (item0 0) = W := by
    have := setRow_new (w.alloc (Obj.cells (item0 0) 33)) (item0 0) (item0 0) 33
    rw [heap_alloc_sz] at this
    rw [this, hW]
  have hh7 : ((w.alloc (Obj.cells (item0 0) 33)).alloc (Obj.cells (item0 0) 33)).heap[w.heap.size + 1]? = some (.cells (item0 0) 33 (0, 0)) := heap_alloc2_new w _ _
  have hbW : Below w.heap.size w W := by rw [← hW]; exact ((Below.refl _ w).alloc (Nat.le_refl _) _).alloc (by simp) _
  have h6 : W.heap[w.heap.size]? = some (.cells (item0 0) 33 (0, 0)) := by rw [← hW]; exact heap_alloc2_old w _ _
  have h7 : W.heap[w.heap.size + 1]? = some (.cells (item0 0) 33 (0, 0)) := by rw [← hW]; exact heap_alloc2_new w _ _
  have hsW : W.heap.size = w.heap.size + 2 := by rw [← hW]; simp
  have hgl := (Array.getElem?_eq_some_iff.1 h.cell).1
  have HC := Lib.hid (Number_any g A c xs most W (h.below hbW))
  have HW := Lib.hid (And.intro hbW (And.intro h6 (And.intro h7 (And.intro hsW (And.intro hgl h.old)))))
  clear hW hbW h6 h7 hsW hgl h
  go_enter Try.func15, Try.ntmps15
  go_wp2_with (first
    | (refine wpList_store_row rfl 33 (.tmp 7) (.tmp 10) rfl (w.heap.size + 1) 33 (item0 0) (item0 0) rfl rfl hh7 info_item rfl (item_one 0 0 none 0 0) ?_; rw [hset]))
  clear hz hset hh7
  refine HC.out.mono ?_
  clear HC
  rintro e w1 ⟨hk, hp⟩
  cases hr : numT most 0 0 xs with
  | error code =>
    rw [hr] at hp
    subst hp
    have HE : Hid (nextT 0 most xs = .error code) := Lib.hid (by simp [nextT, hr])
    have HX := Lib.hid ((Kp.of_below (K := fun k => k ≠ g) HW.out.1 (fun k hk _ => hk)).trans hk)
    clear hr hk HW
    go_wp2
    refine ⟨rfl, HX.out, ?_⟩
    rw [HE.out]
  | ok s =>
    obtain ⟨v, ys⟩ := s
    rw [hr] at hp
    obtain ⟨rfl, A2, c2, hrd, hsb⟩ := hp
    have HE : Hid (nextT 0 most xs = .ok ((v, []), ys)) := Lib.hid (by simp [nextT, hr])
    obtain ⟨hbW, h6, h7, hsW, hgl, hold⟩ := HW.out
    have h7 : w1.heap[w.heap.size + 1]? = some (.cells (item0 0) 33 (0, 0)) := (hk.block _ (by omega) (by omega)).trans h7
    have h6 : w1.heap[w.heap.size]? = some (.cells (item0 0) 33 (0, 0)) := (hk.block _ (by omega) (by omega)).trans h6

    have f7 := frozen_of_row w1 (w.heap.size + 1) 1 _ _ h7
    have c7 := cell_of_row w1 (w.heap.size + 1) 1 _ _ _ h7
    have h7n := heap_setCell_same w1 (w.heap.size + 1) 1 _ _ (.int .i64 (v : Int)) h7
    have h6n := (heap_setCell_other w1 ⟨w.heap.size + 1, 1, none⟩ w.heap.size (.int .i64 (v : Int)) (by simp)).trans h6
    have HX := Lib.hid (And.intro HW.out (And.intro hk (And.intro hrd (And.intro hsb (And.intro h6n h7n)))))
    clear hr hk hrd hsb h6 h7 hbW hsW hgl hold HW
    go_wp2_with (first
      | (refine wpList_load_row rfl 33 (.tmp 7) rfl (w.heap.size + 1) rfl 33 #[.int .i64 0, .int .i64 (v : Int), .slice none 0 0] (0, 0) _ h7n Try.underlying33 rfl info_item ?_)
      | (refine wpList_store_row rfl 33 (.tmp 6) (.tmp 46) rfl w.heap.size 33 (item0 0) #[.int .i64 0, .int .i64 (v : Int), .slice none 0 0] rfl rfl h6n info_item rfl (item_one 0 v none 0 0) ?_))
    refine bodyPost_ret (results_cell_row rfl _ _ w.heap.size _ _ _ _ rfl (setRow_heap _ _ _ #[.int .i64 0, .int .i64 (v : Int), .slice none 0 0] _ _ h6n) Try.underlying33 rfl info_item) rfl ?_
    obtain ⟨⟨hbW, h6, h7, hsW, hgl, hold⟩, hk, hrd, hsb, _⟩ := HX.out
    exact nx_ok (k := 0) (bs := []) HE.out ((Kp.of_below hbW (fun k hk _ => hk)).trans hk) ((Kp.refl _ _).setCell (p := ⟨w.heap.size + 1, 1, none⟩) (by simp) _) hgl hold hrd hsb (RowB.nil _ _) (fun a ha => by cases ha) (.inr fun a1 _ ha _ _ => by cases ha) _

set_option maxRecDepth 100000 in
set_option maxHeartbeats 1000000 in
theorem next_5 (g : Nat) (A : Option Addr) (c : Nat) (xs : List Nat) (most : Int) (w : World) (h : Rd w g A c xs) :
    Calls Try.prog 15 #[.pointer (some ⟨g, 0, none⟩), .int .i64 5, .int .i64 most] w (NxPost 5 g A w (nextT 5 most xs)) := by
  have hz := run_zero_item
  obtain ⟨W, hW⟩ : ∃ W, (w.alloc (Obj.cells (item0 0) 33)).alloc (Obj.cells (item0 5) 33) = W := ⟨_, rfl⟩
  have hset : ((w.alloc (Obj.cells (item0 0) 33)).alloc (Obj.cells (item0 0) 33)).setRow (w.heap.size + 1) (item0 5) = W := by
    have := setRow_new (w.alloc (Obj.cells (item0 0) 33)) (item0 0) (item0 5) 33
    rw [heap_alloc_sz] at this
    rw [this, hW]
  have hh7 : ((w.alloc (Obj.cells (item0 0) 33)).alloc (Obj.cells (item0 0) 33)).heap[w.heap.size + 1]? = some (.cells (item0 0) 33 (0, 0)) := heap_alloc2_new w _ _
  have hbW : Below w.heap.size w W := by rw [← hW]; exact ((Below.refl _ w).alloc (Nat.le_refl _) _).alloc (by simp) _
  have h6 : W.heap[w.heap.size]? = some (.cells (item0 0) 33 (0, 0)) := by rw [← hW]; exact heap_alloc2_old w _ _
  have h7 : W.heap[w.heap.size + 1]? = some (.cells (item0 5) 33 (0, 0)) := by rw [← hW]; exact heap_alloc2_new w _ _
  have hsW : W.heap.size = w.heap.size + 2 := by rw [← hW]; simp
  have hgl := (Array.getElem?_eq_some_iff.1 h.cell).1
  have HC := Lib.hid (Count_any g A c xs most W (h.below hbW))
  have HW := Lib.hid (And.intro hbW (And.intro h6 (And.intro h7 (And.intro hsW (And.intro hgl h.old)))))
  clear hW hbW h6 h7 hsW hgl h
  go_enter Try.func15, Try.ntmps15
  go_wp2_with (first
    | (refine wpList_store_row rfl 33 (.tmp 7) (.tmp 10) rfl (w.heap.size + 1) 33 (item0 0) (item0 5) rfl rfl hh7 info_item rfl (item_one 5 0 none 0 0) ?_; rw [hset]))
  clear hz hset hh7
  refine HC.out.mono ?_
  clear HC
  rintro e w1 ⟨hk, hp⟩
  cases hr : numT most 0 0 xs with
  | error code =>
    rw [hr] at hp
    subst hp
    have HE : Hid (nextT 5 most xs = .error code) := Lib.hid (by simp [nextT, hr])
    have HX := Lib.hid ((Kp.of_below (K := fun k => k ≠ g) HW.out.1 (fun k hk _ => hk)).trans hk)
    clear hr hk HW
    go_wp2
    refine ⟨rfl, HX.out, ?_⟩
    rw [HE.out]
  | ok s =>
    obtain ⟨v, ys⟩ := s
    rw [hr] at hp
    obtain ⟨rfl, A2, c2, hrd, hsb⟩ := hp
    have HE : Hid (nextT 5 most xs = .ok ((v, []), ys)) := Lib.hid (by simp [nextT, hr])
    obtain ⟨hbW, h6, h7, hsW, hgl, hold⟩ := HW.out
    have h7 : w1.heap[w.heap.size + 1]? = some (.cells (item0 5) 33 (0, 0)) := (hk.block _ (by omega) (by omega)).trans h7
    have h6 : w1.heap[w.heap.size]? = some (.cells (item0 0) 33 (0, 0)) := (hk.block _ (by omega) (by omega)).trans h6

    have f7 := frozen_of_row w1 (w.heap.size + 1) 1 _ _ h7
    have c7 := cell_of_row w1 (w.heap.size + 1) 1 _ _ _ h7
    have h7n := heap_setCell_same w1 (w.heap.size + 1) 1 _ _ (.int .i64 (v : Int)) h7
    have h6n := (heap_setCell_other w1 ⟨w.heap.size + 1, 1, none⟩ w.heap.size (.int .i64 (v : Int)) (by simp)).trans h6
    have HX := Lib.hid (And.intro HW.out (And.intro hk (And.intro hrd (And.intro hsb (And.intro h6n h7n)))))
    clear hr hk hrd hsb h6 h7 hbW hsW hgl hold HW
    go_wp2_with (first
      | (refine wpList_load_row rfl 33 (.tmp 7) rfl (w.heap.size + 1) rfl 33 #[.int .i64 5, .int .i64 (v : Int), .slice none 0 0] (0, 0) _ h7n Try.underlying33 rfl info_item ?_)
      | (refine wpList_store_row rfl 33 (.tmp 6) (.tmp 46) rfl w.heap.size 33 (item0 0) #[.int .i64 5, .int .i64 (v : Int), .slice none 0 0] rfl rfl h6n info_item rfl (item_one 5 v none 0 0) ?_))
    refine bodyPost_ret (results_cell_row rfl _ _ w.heap.size _ _ _ _ rfl (setRow_heap _ _ _ #[.int .i64 5, .int .i64 (v : Int), .slice none 0 0] _ _ h6n) Try.underlying33 rfl info_item) rfl ?_
    obtain ⟨⟨hbW, h6, h7, hsW, hgl, hold⟩, hk, hrd, hsb, _⟩ := HX.out
    exact nx_ok (k := 5) (bs := []) HE.out ((Kp.of_below hbW (fun k hk _ => hk)).trans hk) ((Kp.refl _ _).setCell (p := ⟨w.heap.size + 1, 1, none⟩) (by simp) _) hgl hold hrd hsb (RowB.nil _ _) (fun a ha => by cases ha) (.inr fun a1 _ ha _ _ => by cases ha) _

set_option maxRecDepth 100000 in
set_option maxHeartbeats 1000000 in
theorem next_1 (g : Nat) (A : Option Addr) (c : Nat) (xs : List Nat) (most : Int) (w : World) (h : Rd w g A c xs) :
    Calls Try.prog 15 #[.pointer (some ⟨g, 0, none⟩), .int .i64 1, .int .i64 most] w (NxPost 1 g A w (nextT 1 most xs)) := by
  have hz := run_zero_item
  obtain ⟨W, hW⟩ : ∃ W, (w.alloc (Obj.cells (item0 0) 33)).alloc (Obj.cells (item0 1) 33) = W := ⟨_, rfl⟩
  have hset : ((w.alloc (Obj.cells (item0 0) 33)).alloc (Obj.cells (item0 0) 33)).setRow (w.heap.size + 1) (item0 1) = W := by
    have := setRow_new (w.alloc (Obj.cells (item0 0) 33)) (item0 0) (item0 1) 33
    rw [heap_alloc_sz] at this
    rw [this, hW]
  have hh7 : ((w.alloc (Obj.cells (item0 0) 33)).alloc (Obj.cells (item0 0) 33)).heap[w.heap.size + 1]? = some (.cells (item0 0) 33 (0, 0)) := heap_alloc2_new w _ _
  have hbW : Below w.heap.size w W := by rw [← hW]; exact ((Below.refl _ w).alloc (Nat.le_refl _) _).alloc (by simp) _
  have h6 : W.heap[w.heap.size]? = some (.cells (item0 0) 33 (0, 0)) := by rw [← hW]; exact heap_alloc2_old w _ _
  have h7 : W.heap[w.heap.size + 1]? = some (.cells (item0 1) 33 (0, 0)) := by rw [← hW]; exact heap_alloc2_new w _ _
  have hsW : W.heap.size = w.heap.size + 2 := by rw [← hW]; simp
  have hgl := (Array.getElem?_eq_some_iff.1 h.cell).1
  have HC := Lib.hid (Bytes_any g A c xs most W (h.below hbW))
  have HW := Lib.hid (And.intro hbW (And.intro h6 (And.intro h7 (And.intro hsW (And.intro hgl h.old)))))
  clear hW hbW h6 h7 hsW hgl h
  go_enter Try.func15, Try.ntmps15
  go_wp2_with (first
    | (refine wpList_store_row rfl 33 (.tmp 7) (.tmp 10) rfl (w.heap.size + 1) 33 (item0 0) (item0 1) rfl rfl hh7 info_item rfl (item_one 1 0 none 0 0) ?_; rw [hset]))
  clear hz hset hh7
  refine HC.out.mono ?_
  clear HC
  rintro e w1 ⟨hk, hp⟩
  cases hr : bytesT most xs with
  | error code =>
    rw [hr] at hp
    subst hp
    have HE : Hid (nextT 1 most xs = .error code) := Lib.hid (by simp [nextT, hr])
    have HX := Lib.hid ((Kp.of_below (K := fun k => k ≠ g) HW.out.1 (fun k hk _ => hk)).trans hk)
    clear hr hk HW
    go_wp2
    refine ⟨rfl, HX.out, ?_⟩
    rw [HE.out]
  | ok s =>
    obtain ⟨bs, ys⟩ := s
    rw [hr] at hp
    obtain ⟨A1, c1, A2, c2, rfl, hb, hrd, hsb1, hsb, hne, hA⟩ := hp
    have HE : Hid (nextT 1 most xs = .ok ((0, bs), ys)) := Lib.hid (by simp [nextT, hr])
    obtain ⟨hbW, h6, h7, hsW, hgl, hold⟩ := HW.out
    have h7 : w1.heap[w.heap.size + 1]? = some (.cells (item0 1) 33 (0, 0)) := (hk.block _ (by omega) (by omega)).trans h7
    have h6 : w1.heap[w.heap.size]? = some (.cells (item0 0) 33 (0, 0)) := (hk.block _ (by omega) (by omega)).trans h6
    obtain ⟨n, hn⟩ : ∃ n, bs.length = n := ⟨_, rfl⟩
    rw [hn]
    have f7 := frozen_of_row w1 (w.heap.size + 1) 2 _ _ h7
    have c7 := cell_of_row w1 (w.heap.size + 1) 2 _ _ _ h7
    have h7n := heap_setCell_same w1 (w.heap.size + 1) 2 _ _ (.slice A1 n n) h7
    have h6n := (heap_setCell_other w1 ⟨w.heap.size + 1, 2, none⟩ w.heap.size (.slice A1 n n) (by simp)).trans h6
    have HX := Lib.hid (And.intro HW.out (And.intro hk (And.intro hrd (And.intro hsb (And.intro hb (And.intro hsb1 (And.intro hne hA)))))))
    have HN := Lib.hid hn
    clear hr hk hrd hsb h6 h7 hbW hsW hgl hold HW hb hsb1 hne hA hn
    go_wp2_with (first
      | (refine wpList_load_row rfl 33 (.tmp 7) rfl (w.heap.size + 1) rfl 33 #[.int .i64 1, .int .i64 0, .slice A1 n n] (0, 0) _ h7n Try.underlying33 rfl info_item ?_)
      | (refine wpList_store_row rfl 33 (.tmp 6) (.tmp 46) rfl w.heap.size 33 (item0 0) #[.int .i64 1, .int .i64 0, .slice A1 n n] rfl rfl h6n info_item rfl (item_one 1 0 A1 n n) ?_))
    refine bodyPost_ret (results_cell_row rfl _ _ w.heap.size _ _ _ _ rfl (setRow_heap _ _ _ #[.int .i64 1, .int .i64 0, .slice A1 n n] _ _ h6n) Try.underlying33 rfl info_item) rfl ?_
    obtain ⟨⟨hbW, h6, h7, hsW, hgl, hold⟩, hk, hrd, hsb, hb, hsb1, hne, hA⟩ := HX.out
    obtain rfl := HN.out
    exact nx_ok (k := 1) (N := 0) HE.out ((Kp.of_below hbW (fun k hk _ => hk)).trans hk) ((Kp.refl _ _).setCell (p := ⟨w.heap.size + 1, 2, none⟩) (by simp) _) hgl hold hrd hsb hb (fun a ha => ⟨hne a ha, .inl (hsb1 a ha)⟩) (ahead_of hA) _

set_option maxRecDepth 100000 in
set_option maxHeartbeats 1000000 in
theorem next_2 (g : Nat) (A : Option Addr) (c : Nat) (xs : List Nat) (most : Int) (w : World) (h : Rd w g A c xs) :
    Calls Try.prog 15 #[.pointer (some ⟨g, 0, none⟩), .int .i64 2, .int .i64 most] w (NxPost 2 g A w (nextT 2 most xs)) := by
  have hz := run_zero_item
  obtain ⟨W, hW⟩ : ∃ W, (w.alloc (Obj.cells (item0 0) 33)).alloc (Obj.cells (item0 2) 33) = W := ⟨_, rfl⟩
  have hset : ((w.alloc (Obj.cells (item0 0) 33)).alloc (Obj.cells (item0 0) 33)).setRow (w.heap.size + 1) (item0 2) = W := by
    have := setRow_new (w.alloc (Obj.cells (item0 0) 33)) (item0 0) (item0 2) 33
    rw [heap_alloc_sz] at this
    rw [this, hW]
  have hh7 : ((w.alloc (Obj.cells (item0 0) 33)).alloc (Obj.cells (item0 0) 33)).heap[w.heap.size + 1]? = some (.cells (item0 0) 33 (0, 0)) := heap_alloc2_new w _ _
  have hbW : Below w.heap.size w W := by rw [← hW]; exact ((Below.refl _ w).alloc (Nat.le_refl _) _).alloc (by simp) _
  have h6 : W.heap[w.heap.size]? = some (.cells (item0 0) 33 (0, 0)) := by rw [← hW]; exact heap_alloc2_old w _ _
  have h7 : W.heap[w.heap.size + 1]? = some (.cells (item0 2) 33 (0, 0)) := by rw [← hW]; exact heap_alloc2_new w _ _
  have hsW : W.heap.size = w.heap.size + 2 := by rw [← hW]; simp
  have hgl := (Array.getElem?_eq_some_iff.1 h.cell).1
  have HC := Lib.hid (Text_any g A c xs most W (h.below hbW))
  have HW := Lib.hid (And.intro hbW (And.intro h6 (And.intro h7 (And.intro hsW (And.intro hgl h.old)))))
  clear hW hbW h6 h7 hsW hgl h
  go_enter Try.func15, Try.ntmps15
  go_wp2_with (first
    | (refine wpList_store_row rfl 33 (.tmp 7) (.tmp 10) rfl (w.heap.size + 1) 33 (item0 0) (item0 2) rfl rfl hh7 info_item rfl (item_one 2 0 none 0 0) ?_; rw [hset]))
  clear hz hset hh7
  refine HC.out.mono ?_
  clear HC
  rintro e w1 ⟨hk, hp⟩
  cases hr : bytesT most xs with
  | error code =>
    rw [hr] at hp
    subst hp
    have HE : Hid (nextT 2 most xs = .error code) := Lib.hid (by simp [nextT, hr])
    have HX := Lib.hid ((Kp.of_below (K := fun k => k ≠ g) HW.out.1 (fun k hk _ => hk)).trans hk)
    clear hr hk HW
    go_wp2
    refine ⟨rfl, HX.out, ?_⟩
    rw [HE.out]
  | ok s =>
    obtain ⟨bs, ys⟩ := s
    rw [hr] at hp
    obtain ⟨rfl, hlt, A2, c2, hrd, hsb⟩ := hp
    have HE : Hid (nextT 2 most xs = .ok ((0, bs), ys)) := Lib.hid (by simp [nextT, hr])
    obtain ⟨hbW, h6, h7, hsW, hgl, hold⟩ := HW.out
    have h7 : w1.heap[w.heap.size + 1]? = some (.cells (item0 2) 33 (0, 0)) := (hk.block _ (by omega) (by omega)).trans h7
    have h6 : w1.heap[w.heap.size]? = some (.cells (item0 0) 33 (0, 0)) := (hk.block _ (by omega) (by omega)).trans h6
    have hcv := conv_str w1 bs
    have hrow := str_row w1 bs hlt
    have hkw := str_world w1 bs (fun _ => True)
    have hs1 := hk.size
    generalize grownCap w1 (bstr bs).size 0 5 = cap at *
    generalize hw2 : Lib.bytesWorld w1 5 (bstr bs) = w2 at *
    clear hw2
    have hrd := hrd.move hkw.1.size (hkw.1.block _ (Array.getElem?_eq_some_iff.1 hrd.cell).1 trivial) (fun a ha hl => hkw.1.block _ hl trivial)
    have h7 := (hkw.1.block _ (Array.getElem?_eq_some_iff.1 h7).1 trivial).trans h7
    have h6 := (hkw.1.block _ (Array.getElem?_eq_some_iff.1 h6).1 trivial).trans h6
    have hk := hk.trans (hkw.1.weak (fun _ _ _ => trivial))
    obtain ⟨n, hn⟩ : ∃ n, bs.length = n := ⟨_, rfl⟩
    rw [hn] at hcv
    generalize hq : w1.heap.size = q at *
    have f7 := frozen_of_row w2 (w.heap.size + 1) 2 _ _ h7
    have c7 := cell_of_row w2 (w.heap.size + 1) 2 _ _ _ h7
    have h7n := heap_setCell_same w2 (w.heap.size + 1) 2 _ _ (.slice (some ⟨q, 0, none⟩) n cap) h7
    have h6n := (heap_setCell_other w2 ⟨w.heap.size + 1, 2, none⟩ w.heap.size (.slice (some ⟨q, 0, none⟩) n cap) (by simp)).trans h6
    have HX := Lib.hid (And.intro HW.out (And.intro hk (And.intro hrd (And.intro hsb (And.intro hrow (And.intro hs1 hgl))))))
    have HN := Lib.hid hn
    clear hr hk hrd hsb h6 h7 hbW hsW hgl hold HW hrow hlt hn hkw hs1 hq
    go_wp2_with (first
      | (refine wpList_load_row rfl 33 (.tmp 7) rfl (w.heap.size + 1) rfl 33 #[.int .i64 2, .int .i64 0, .slice (some ⟨q, 0, none⟩) n cap] (0, 0) _ h7n Try.underlying33 rfl info_item ?_)
      | (refine wpList_store_row rfl 33 (.tmp 6) (.tmp 46) rfl w.heap.size 33 (item0 0) #[.int .i64 2, .int .i64 0, .slice (some ⟨q, 0, none⟩) n cap] rfl rfl h6n info_item rfl (item_one 2 0 (some ⟨q, 0, none⟩) n cap) ?_))
    refine bodyPost_ret (results_cell_row rfl _ _ w.heap.size _ _ _ _ rfl (setRow_heap _ _ _ #[.int .i64 2, .int .i64 0, .slice (some ⟨q, 0, none⟩) n cap] _ _ h6n) Try.underlying33 rfl info_item) rfl ?_
    obtain ⟨⟨hbW, h6, h7, hsW, hgl, hold⟩, hk, hrd, hsb, hrow, hs1, _⟩ := HX.out
    obtain rfl := HN.out
    refine nx_ok (k := 2) (N := 0) HE.out ((Kp.of_below hbW (fun k hk _ => hk)).trans hk) ((Kp.refl _ _).setCell (p := ⟨w.heap.size + 1, 2, none⟩) (by simp) _) hgl hold hrd hsb hrow (fun a ha => ?_) (.inr fun a1 a2 h1 h2 he => ?_) _
    · cases ha
      exact ⟨by show q ≠ g; omega, .inr (by show w.heap.size + 2 ≤ q; omega)⟩
    · cases h1
      obtain ⟨p, hp, e⟩ := hsb a2 h2
      have := hold p hp
      have e' : q = a2.block := he
      omega

set_option maxRecDepth 100000 in
set_option maxHeartbeats 1000000 in
theorem next_3 (g : Nat) (A : Option Addr) (c : Nat) (xs : List Nat) (most : Int) (w : World) (h : Rd w g A c xs) :
    Calls Try.prog 15 #[.pointer (some ⟨g, 0, none⟩), .int .i64 3, .int .i64 most] w (NxPost 3 g A w (nextT 3 most xs)) := by
  have hz := run_zero_item
  obtain ⟨W, hW⟩ : ∃ W, (w.alloc (Obj.cells (item0 0) 33)).alloc (Obj.cells (item0 3) 33) = W := ⟨_, rfl⟩
  have hset : ((w.alloc (Obj.cells (item0 0) 33)).alloc (Obj.cells (item0 0) 33)).setRow (w.heap.size + 1) (item0 3) = W := by
    have := setRow_new (w.alloc (Obj.cells (item0 0) 33)) (item0 0) (item0 3) 33
    rw [heap_alloc_sz] at this
    rw [this, hW]
  have hh7 : ((w.alloc (Obj.cells (item0 0) 33)).alloc (Obj.cells (item0 0) 33)).heap[w.heap.size + 1]? = some (.cells (item0 0) 33 (0, 0)) := heap_alloc2_new w _ _
  have hbW : Below w.heap.size w W := by rw [← hW]; exact ((Below.refl _ w).alloc (Nat.le_refl _) _).alloc (by simp) _
  have h6 : W.heap[w.heap.size]? = some (.cells (item0 0) 33 (0, 0)) := by rw [← hW]; exact heap_alloc2_old w _ _
  have h7 : W.heap[w.heap.size + 1]? = some (.cells (item0 3) 33 (0, 0)) := by rw [← hW]; exact heap_alloc2_new w _ _
  have hsW : W.heap.size = w.heap.size + 2 := by rw [← hW]; simp
  have hgl := (Array.getElem?_eq_some_iff.1 h.cell).1
  have HC := Lib.hid (Truth_any g A c xs W (h.below hbW))
  have HW := Lib.hid (And.intro hbW (And.intro h6 (And.intro h7 (And.intro hsW (And.intro hgl h.old)))))
  clear hW hbW h6 h7 hsW hgl h
  go_enter Try.func15, Try.ntmps15
  go_wp2_with (first
    | (refine wpList_store_row rfl 33 (.tmp 7) (.tmp 10) rfl (w.heap.size + 1) 33 (item0 0) (item0 3) rfl rfl hh7 info_item rfl (item_one 3 0 none 0 0) ?_; rw [hset]))
  clear hz hset hh7
  refine HC.out.mono ?_
  clear HC
  rintro e w1 ⟨hk, hp⟩
  cases hr : truthT xs with
  | error code =>
    rw [hr] at hp
    subst hp
    have HE : Hid (nextT 3 most xs = .error code) := Lib.hid (by simp [nextT, hr])
    have HX := Lib.hid ((Kp.of_below (K := fun k => k ≠ g) HW.out.1 (fun k hk _ => hk)).trans hk)
    clear hr hk HW
    go_wp2
    refine ⟨rfl, HX.out, ?_⟩
    rw [HE.out]
  | ok s =>
    obtain ⟨b, ys⟩ := s
    rw [hr] at hp
    obtain ⟨rfl, A2, c2, hrd, hsb⟩ := hp
    have HE : Hid (nextT 3 most xs = .ok ((if b then 1 else 0, []), ys)) := Lib.hid (by simp [nextT, hr])
    cases b with
    | true =>
      obtain ⟨hbW, h6, h7, hsW, hgl, hold⟩ := HW.out
      have h7 : w1.heap[w.heap.size + 1]? = some (.cells (item0 3) 33 (0, 0)) := (hk.block _ (by omega) (by omega)).trans h7
      have h6 : w1.heap[w.heap.size]? = some (.cells (item0 0) 33 (0, 0)) := (hk.block _ (by omega) (by omega)).trans h6
      have f7 := frozen_of_row w1 (w.heap.size + 1) 1 _ _ h7
      have c7 := cell_of_row w1 (w.heap.size + 1) 1 _ _ _ h7
      have h7n := heap_setCell_same w1 (w.heap.size + 1) 1 _ _ (.int .i64 1) h7
      have h6n := (heap_setCell_other w1 ⟨w.heap.size + 1, 1, none⟩ w.heap.size (.int .i64 1) (by simp)).trans h6
      have HX := Lib.hid (And.intro HW.out (And.intro hk (And.intro hrd hsb)))
      clear hr hk hrd hsb h6 h7 hbW hsW hgl hold HW
      go_wp2_with (first
        | (refine wpList_load_row rfl 33 (.tmp 7) rfl (w.heap.size + 1) rfl 33 #[.int .i64 3, .int .i64 1, .slice none 0 0] (0, 0) _ h7n Try.underlying33 rfl info_item ?_)
        | (refine wpList_store_row rfl 33 (.tmp 6) (.tmp 46) rfl w.heap.size 33 (item0 0) #[.int .i64 3, .int .i64 1, .slice none 0 0] rfl rfl h6n info_item rfl (item_one 3 1 none 0 0) ?_))
      refine bodyPost_ret (results_cell_row rfl _ _ w.heap.size _ _ _ _ rfl (setRow_heap _ _ _ #[.int .i64 3, .int .i64 1, .slice none 0 0] _ _ h6n) Try.underlying33 rfl info_item) rfl ?_
      obtain ⟨⟨hbW, h6, h7, hsW, hgl, hold⟩, hk, hrd, hsb⟩ := HX.out
      exact nx_ok (k := 3) (N := 1) (bs := []) HE.out ((Kp.of_below hbW (fun k hk _ => hk)).trans hk) ((Kp.refl _ _).setCell (p := ⟨w.heap.size + 1, 1, none⟩) (by simp) _) hgl hold hrd hsb (RowB.nil _ _) (fun a ha => by cases ha) (.inr fun a1 _ ha _ _ => by cases ha) _
    | false =>
      obtain ⟨hbW, h6, h7, hsW, hgl, hold⟩ := HW.out
      have h7 : w1.heap[w.heap.size + 1]? = some (.cells (item0 3) 33 (0, 0)) := (hk.block _ (by omega) (by omega)).trans h7
      have h6 : w1.heap[w.heap.size]? = some (.cells (item0 0) 33 (0, 0)) := (hk.block _ (by omega) (by omega)).trans h6
      have h7n := h7
      have h6n := h6
      have HX := Lib.hid (And.intro HW.out (And.intro hk (And.intro hrd hsb)))
      clear hr hk hrd hsb h6 h7 hbW hsW hgl hold HW
      go_wp2_with (first
        | (refine wpList_load_row rfl 33 (.tmp 7) rfl (w.heap.size + 1) rfl 33 (item0 3) (0, 0) _ h7n Try.underlying33 rfl info_item ?_)
        | (refine wpList_store_row rfl 33 (.tmp 6) (.tmp 46) rfl w.heap.size 33 (item0 0) (item0 3) rfl rfl h6n info_item rfl (item_one 3 0 none 0 0) ?_))
      refine bodyPost_ret (results_cell_row rfl _ _ w.heap.size _ _ _ _ rfl (setRow_heap _ _ _ (item0 3) _ _ h6n) Try.underlying33 rfl info_item) rfl ?_
      obtain ⟨⟨hbW, h6, h7, hsW, hgl, hold⟩, hk, hrd, hsb⟩ := HX.out
      exact nx_ok (k := 3) (N := 0) (bs := []) HE.out ((Kp.of_below hbW (fun k hk _ => hk)).trans hk) (Kp.refl _ _) hgl hold hrd hsb (RowB.nil _ _) (fun a ha => by cases ha) (.inr fun a1 _ ha _ _ => by cases ha) _

set_option maxRecDepth 100000 in
set_option maxHeartbeats 1000000 in
theorem next_4 (g : Nat) (A : Option Addr) (c : Nat) (xs : List Nat) (most : Int) (w : World) (h : Rd w g A c xs) :
    Calls Try.prog 15 #[.pointer (some ⟨g, 0, none⟩), .int .i64 4, .int .i64 most] w (NxPost 4 g A w (nextT 4 most xs)) := by
  have hz := run_zero_item
  obtain ⟨W, hW⟩ : ∃ W, (w.alloc (Obj.cells (item0 0) 33)).alloc (Obj.cells (item0 4) 33) = W := ⟨_, rfl⟩
  have hset : ((w.alloc (Obj.cells (item0 0) 33)).alloc (Obj.cells (item0 0) 33)).setRow (w.heap.size + 1) (item0 4) = W := by
    have := setRow_new (w.alloc (Obj.cells (item0 0) 33)) (item0 0) (item0 4) 33
    rw [heap_alloc_sz] at this
    rw [this, hW]
  have hh7 : ((w.alloc (Obj.cells (item0 0) 33)).alloc (Obj.cells (item0 0) 33)).heap[w.heap.size + 1]? = some (.cells (item0 0) 33 (0, 0)) := heap_alloc2_new w _ _
  have hbW : Below w.heap.size w W := by rw [← hW]; exact ((Below.refl _ w).alloc (Nat.le_refl _) _).alloc (by simp) _
  have h6 : W.heap[w.heap.size]? = some (.cells (item0 0) 33 (0, 0)) := by rw [← hW]; exact heap_alloc2_old w _ _
  have h7 : W.heap[w.heap.size + 1]? = some (.cells (item0 4) 33 (0, 0)) := by rw [← hW]; exact heap_alloc2_new w _ _
  have hsW : W.heap.size = w.heap.size + 2 := by rw [← hW]; simp
  have hgl := (Array.getElem?_eq_some_iff.1 h.cell).1
  have HC := Lib.hid (Digest_any g A c xs W (h.below hbW))
  have HW := Lib.hid (And.intro hbW (And.intro h6 (And.intro h7 (And.intro hsW (And.intro hgl h.old)))))
  clear hW hbW h6 h7 hsW hgl h
  go_enter Try.func15, Try.ntmps15
  go_wp2_with (first
    | (refine wpList_store_row rfl 33 (.tmp 7) (.tmp 10) rfl (w.heap.size + 1) 33 (item0 0) (item0 4) rfl rfl hh7 info_item rfl (item_one 4 0 none 0 0) ?_; rw [hset]))
  clear hz hset hh7
  refine HC.out.mono ?_
  clear HC
  rintro e w1 ⟨hk, hp⟩
  cases hr : takeT 32 xs with
  | error code =>
    rw [hr] at hp
    subst hp
    have HE : Hid (nextT 4 most xs = .error code) := Lib.hid (by simp [nextT, hr])
    have HX := Lib.hid ((Kp.of_below (K := fun k => k ≠ g) HW.out.1 (fun k hk _ => hk)).trans hk)
    clear hr hk HW
    go_wp2
    refine ⟨rfl, HX.out, ?_⟩
    rw [HE.out]
  | ok s =>
    obtain ⟨bs, ys⟩ := s
    rw [hr] at hp
    obtain ⟨rfl, hbl, hlt, A2, c2, hrd, hsb⟩ := hp
    have HE : Hid (nextT 4 most xs = .ok ((0, bs), ys)) := Lib.hid (by simp [nextT, hr])
    obtain ⟨hbW, h6, h7, hsW, hgl, hold⟩ := HW.out
    have h7 : w1.heap[w.heap.size + 1]? = some (.cells (item0 4) 33 (0, 0)) := (hk.block _ (by omega) (by omega)).trans h7
    have h6 : w1.heap[w.heap.size]? = some (.cells (item0 0) 33 (0, 0)) := (hk.block _ (by omega) (by omega)).trans h6
    have hzd := run_zero_digest
    have hs1 := hk.size
    have hset : (w1.alloc (.cells z32 60)).setRow w1.heap.size (u8s bs) = w1.alloc (.cells (u8s bs) 60) := setRow_new w1 z32 (u8s bs) 60
    have hzn := heap_alloc_new w1 (.cells z32 60)
    have hvs : (Try.prog.info? 60).map (·.size) = some (u8s bs).size := by rw [u8s_size, hbl]; exact info_digest
    have hzs : z32.size = (u8s bs).size := by rw [u8s_size, hbl]; rfl
    have hrow : RowB (w1.alloc (.cells (u8s bs) 60)) (some ⟨w1.heap.size, 0, none⟩) bs := RowB.of_u8s (heap_alloc_new w1 _) hlt
    have hb2 : Below w1.heap.size w1 (w1.alloc (.cells (u8s bs) 60)) := (Below.refl _ _).alloc (Nat.le_refl _) _
    obtain ⟨w2, hw2⟩ : ∃ w2, w1.alloc (.cells (u8s bs) 60) = w2 := ⟨_, rfl⟩
    rw [hw2] at hset hrow hb2
    have hrd := hrd.below hb2
    have h7 := (hb2.block _ (Array.getElem?_eq_some_iff.1 h7).1).trans h7
    have h6 := (hb2.block _ (Array.getElem?_eq_some_iff.1 h6).1).trans h6
    have hk := hk.trans (Kp.of_below hb2 (fun _ h _ => h))
    clear hw2 hb2
    generalize hq : w1.heap.size = q at *
    have f7 := frozen_of_row w2 (w.heap.size + 1) 2 _ _ h7
    have c7 := cell_of_row w2 (w.heap.size + 1) 2 _ _ _ h7
    have h7n := heap_setCell_same w2 (w.heap.size + 1) 2 _ _ (.slice (some ⟨q, 0, none⟩) 32 32) h7
    have h6n := (heap_setCell_other w2 ⟨w.heap.size + 1, 2, none⟩ w.heap.size (.slice (some ⟨q, 0, none⟩) 32 32) (by simp)).trans h6
    have HX := Lib.hid (And.intro HW.out (And.intro hk (And.intro hrd (And.intro hsb (And.intro hrow (And.intro hs1 (And.intro hbl hgl)))))))
    clear hr hk hrd hsb h6 h7 hbW hsW hgl hold HW hrow hlt hs1 hbl
    go_wp2_with (first
      | (refine wpList_store_row rfl 60 (.tmp 8) (.tmp 43) rfl q 60 z32 (u8s bs) rfl rfl hzn hvs hzs (u8s_one bs) ?_; rw [hset])
      | (refine wpList_load_row rfl 33 (.tmp 7) rfl (w.heap.size + 1) rfl 33 #[.int .i64 4, .int .i64 0, .slice (some ⟨q, 0, none⟩) 32 32] (0, 0) _ h7n Try.underlying33 rfl info_item ?_)
      | (refine wpList_store_row rfl 33 (.tmp 6) (.tmp 46) rfl w.heap.size 33 (item0 0) #[.int .i64 4, .int .i64 0, .slice (some ⟨q, 0, none⟩) 32 32] rfl rfl h6n info_item rfl (item_one 4 0 (some ⟨q, 0, none⟩) 32 32) ?_))
    refine bodyPost_ret (results_cell_row rfl _ _ w.heap.size _ _ _ _ rfl (setRow_heap _ _ _ #[.int .i64 4, .int .i64 0, .slice (some ⟨q, 0, none⟩) 32 32] _ _ h6n) Try.underlying33 rfl info_item) rfl ?_
    obtain ⟨⟨hbW, h6, h7, hsW, hgl, hold⟩, hk, hrd, hsb, hrow, hs1, hbl, _⟩ := HX.out
    have hfin := nx_ok (k := 4) (N := 0) (c1 := 32) HE.out ((Kp.of_below hbW (fun k hk _ => hk)).trans hk) ((Kp.refl _ _).setCell (p := ⟨w.heap.size + 1, 2, none⟩) (by simp) (.slice (some ⟨q, 0, none⟩) 32 32)) hgl hold hrd hsb hrow (fun a ha => by
      cases ha
      exact ⟨by show q ≠ g; omega, .inr (by show w.heap.size + 2 ≤ q; omega)⟩) (.inr fun a1 a2 h1 h2 he => by
      cases h1
      obtain ⟨p, hp, e⟩ := hsb a2 h2
      have := hold p hp
      have e' : q = a2.block := he
      omega) #[.int .i64 4, .int .i64 0, .slice (some ⟨q, 0, none⟩) 32 32]
    rw [hbl] at hfin
    exact hfin


theorem next_any (k g : Nat) (hk : k < 6) (A : Option Addr) (c : Nat) (xs : List Nat) (most : Int) (w : World) (h : Rd w g A c xs) :
    Calls Try.prog 15 #[.pointer (some ⟨g, 0, none⟩), .int .i64 (k : Int), .int .i64 most] w (NxPost k g A w (nextT k most xs)) := by
  rcases k with _ | _ | _ | _ | _ | _ | k
  · exact next_0 g A c xs most w h
  · exact next_1 g A c xs most w h
  · exact next_2 g A c xs most w h
  · exact next_3 g A c xs most w h
  · exact next_4 g A c xs most w h
  · exact next_5 g A c xs most w h
  · omega

end Go.Proofs.Ytbbnmfdhpepdnaa
