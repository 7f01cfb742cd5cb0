/-
  The document's Next: the item at the beginning of bytes.
-/
import Derived.Test.YtbbnmfdhpepdnaaCodT
import Derived.Test.YtbbnmfdhpepdnaaCodX
import Derived.Test.YtbbnmfdhpepdnaaApp
import Derived.Test.YtbbnmfdhpepdnaaCodC
namespace Go.Proofs.Ytbbnmfdhpepdnaa
open Go.RowKit

theorem results_cell_tmp2 {P : Program} {fn : Func} {p s u : Tmp} {ty : TypeId} (h : fn.results = #[.cell p ty, .tmp s, .tmp u]) (tmps : Array Value) (w : World) (g : Nat) (t : TypeId) (cs : Array Value) (fr : Nat × Nat) (d : TypeDesc)
    (hp : tmps.getD p undef = .pointer (some ⟨g, 0, none⟩)) (hg : w.heap[g]? = some (.cells cs t fr))
    (hu : P.underlying ty = some d) (hd : (match d with | .struct _ | .array _ _ => true | _ => false) = true) (hi : (P.info? ty).map (·.size) = some cs.size) :
    (results fn tmps).run P w = .ok (.tuple #[.agg cs, tmps.getD s undef, tmps.getD u undef]) w := by
  have hp' : tmps[p]?.getD undef = .pointer (some ⟨g, 0, none⟩) := by simpa using hp
  simp [results, h, hp', asAddr, run_loadVar_row w g t ty cs fr d hg hu hd hi]

/-- what the document's Next tells -/
def RnPost (k n : Nat) (w : World) (r : Except Nat ((Nat × List Nat) × List Nat)) (e : Ending) (w' : World) : Prop :=
  Below w.heap.size w w' ∧ match r with
    | .ok ((N, bs), ys) => ∃ A1 c1, e = .returned (.tuple #[.agg #[.int .i64 (k : Int), .int .i64 (N : Int), .slice A1 bs.length c1], .int .i64 ((n - ys.length : Nat) : Int), .int .i64 0]) ∧ RowU8 w' A1 bs ∧ ∀ a, A1 = some a → w.heap.size ≤ a.block
    | .error code => e = .returned (.tuple #[.agg (item0 0), .int .i64 0, .int .i64 (code : Int)]) ∧ code ≠ 0
theorem run_build_item0 (w : World) : (Instr.build 33 #[]).run Try.prog w = .ok (.agg (item0 0)) w := by kernel_rfl
theorem item0_one : (item0 0).all (·.oneCell') = true := item_one 0 0 none 0 0

theorem numT_code (most : Int) : ∀ (xs : List Nat) (i n c : Nat), numT most i n xs = .error c → c ≠ 0
  | [], _, _, c, h => by cases h; decide
  | x :: r, i, n, c, h => by
    rw [numT_cons] at h
    split at h
    · cases h; decide
    · split at h
      · exact numT_code most r _ _ c h
      · split at h
        · cases h; decide
        · cases h

set_option maxRecDepth 100000 in
set_option maxHeartbeats 1000000 in
theorem rNext_3 (A : Option Addr) (c : Nat) (xs : List Nat) (most : Int) (w : World) (h : RowU8 w A xs) :
    Calls Try.prog 13 #[.slice A xs.length c, .int .i64 3, .int .i64 most] w (RnPost 3 xs.length w (nextT 3 most xs)) := by
  have hz := run_zero_item
  have hz0 := run_build_item0
  have hh := heap_alloc_new w (.cells (item0 0) 33)
  have hb : Below w.heap.size w (w.alloc (.cells (item0 0) 33)) := (Below.refl _ w).alloc (Nat.le_refl _) _
  cases xs with
  | nil =>
    have hset := setRow_new w (item0 0) (item0 0) 33
    have HB := Lib.hid hb
    clear hb h
    go_enter Try.func13, Try.ntmps13
    go_wp2_with (first
      | (refine wpList_store_row rfl 33 (.tmp 6) (.tmp 24) rfl w.heap.size 33 (item0 0) (item0 0) rfl rfl hh info_item rfl item0_one ?_; rw [hset]))
    refine bodyPost_ret (results_cell_tmp2 (p := 6) (s := 7) (u := 8) rfl _ _ w.heap.size _ _ _ _ rfl hh Try.underlying33 rfl info_item) rfl ?_
    exact ⟨HB.out, rfl, by decide⟩
  | cons x r =>
    obtain ⟨b, off, e1, hc⟩ := h.form (by simp)
    have c1 := hc 0 (by simp)
    have hx : x < 256 := h.lt x (by simp)
    subst e1
    simp only [Nat.add_zero, List.getElem?_cons_zero, Option.getD_some] at c1
    have tl : decide (((x :: r).length : Int) < 1) = false := by simp; omega
    have tl2 : (0 : Int) < ((x :: r).length : Int) := by simp
    have hlen : (x :: r).length - r.length = 1 := by simp
    have HB := Lib.hid hb
    have HL := Lib.hid hlen
    have c2 : (w.alloc (.cells (item0 0) 33)).cell? ⟨b, off, none⟩ = some (.int .u8 (x : Int)) := (hb.cell (p := ⟨b, off, none⟩) (block_lt_of_cell c1)).trans c1
    clear hb h hc hlen c1
    obtain ⟨len, hln⟩ : ∃ len, (x :: r).length = len := ⟨_, rfl⟩
    rw [hln] at tl tl2 HL ⊢
    have HLn := Lib.hid hln
    clear hln
    by_cases h1 : 1 < x
    · have hset := setRow_new w (item0 0) (item0 0) 33
      have t1 : decide ((x : Int) > 1) = true := by simp; omega
      have HE := Lib.hid (show nextT 3 most (x :: r) = .error 6 by simp [nextT, truthT, h1])
      clear h1
      go_enter Try.func13, Try.ntmps13
      go_wp2_with (first
        | (refine wpList_store_row rfl 33 (.tmp 6) (.tmp 24) rfl w.heap.size 33 (item0 0) (item0 0) rfl rfl hh info_item rfl item0_one ?_; rw [hset]))
      refine bodyPost_ret (results_cell_tmp2 (p := 6) (s := 7) (u := 8) rfl _ _ w.heap.size _ _ _ _ rfl hh Try.underlying33 rfl info_item) rfl ?_
      rw [HE.out]
      exact ⟨HB.out, rfl, by decide⟩
    · have t1 : decide ((x : Int) > 1) = false := by simp; omega
      have hset := setRow_new w (item0 0) #[.int .i64 3, .int .i64 (x : Int), .slice none 0 0] 33
      have hh2 := heap_alloc_new w (.cells #[.int .i64 3, .int .i64 (x : Int), .slice none 0 0] 33)
      have HB2 : Hid (Below w.heap.size w (w.alloc (.cells #[.int .i64 3, .int .i64 (x : Int), .slice none 0 0] 33))) := Lib.hid ((Below.refl _ w).alloc (Nat.le_refl _) _)
      have HE := Lib.hid (show nextT 3 most (x :: r) = .ok ((x, []), r) by
        have : x = 0 ∨ x = 1 := by omega
        rcases this with rfl | rfl <;> rfl)
      clear h1
      go_enter Try.func13, Try.ntmps13
      go_wp2_with (first
        | (refine wpList_store_row rfl 33 (.tmp 6) (.tmp 29) rfl w.heap.size 33 (item0 0) #[.int .i64 3, .int .i64 (x : Int), .slice none 0 0] rfl rfl hh info_item rfl (item_one 3 x none 0 0) ?_; rw [hset]))
      refine bodyPost_ret (results_cell_tmp2 (p := 6) (s := 7) (u := 8) rfl _ _ w.heap.size _ _ _ _ rfl hh2 Try.underlying33 rfl info_item) rfl ?_
      rw [HE.out]
      exact ⟨HB2.out, none, 0, by rw [HL.out]; rfl, row_nil _ _, fun _ h => by cases h⟩

theorem RowU8.sub {w : World} {A : Option Addr} {xs : List Nat} (h : RowU8 w A xs) (k n : Nat) : RowU8 w (A.map (·.add k)) ((xs.drop k).take n) :=
  ⟨fun x hx => h.lt x (List.mem_of_mem_drop (List.mem_of_mem_take hx)), fun i hi => by
    rw [List.length_take, List.length_drop] at hi
    obtain ⟨b, off, e, hc⟩ := h.at_ (k + i) (by omega)
    refine ⟨b, off + k, by rw [e]; simp [plain_add], ?_⟩
    rw [show off + k + i = off + (k + i) by omega, hc, List.getElem?_take, if_pos (by omega), List.getElem?_drop]⟩
theorem RowU8.take {w : World} {A : Option Addr} {xs : List Nat} (h : RowU8 w A xs) (n : Nat) : RowU8 w A (xs.take n) :=
  ⟨fun x hx => h.lt x (List.mem_of_mem_take hx), fun i hi => by
    rw [List.length_take] at hi
    obtain ⟨b, off, e, hc⟩ := h.at_ i (by omega)
    exact ⟨b, off, e, by rw [hc, List.getElem?_take, if_pos (by omega)]⟩⟩

theorem RowU8.same {w w' : World} {A : Option Addr} {xs : List Nat} (h : RowU8 w A xs) (hk : ∀ a, A = some a → w'.heap[a.block]? = w.heap[a.block]?) : RowU8 w' A xs :=
  ⟨h.lt, fun i hi => by
    obtain ⟨b, off, e, hc⟩ := h.at_ i hi
    have e2 : w'.cell? ⟨b, off + i, none⟩ = w.cell? ⟨b, off + i, none⟩ := World.cell?_of_block (a := ⟨b, off + i, none⟩) (show w'.heap[b]? = w.heap[b]? from hk _ e)
    exact ⟨b, off, e, e2.trans hc⟩⟩
/-- a copy of bytes, laid in an item: what it leaves -/
theorem copied {w w1 w2 : World} {A' : Option Addr} {c' : Nat} {bs : List Nat} (hl : ∀ x ∈ bs, x < 256) (_ : Below w.heap.size w w1)
    (hown : w2.ownsRow w1.heap.size 5 1 (.slice A' (0 + bs.length) c') (0 + bs.length) ([] ++ u8v bs)) (hgr : (w1.alloc (.cells #[] 5)).grownBy w2 (Value.slice (some ⟨w1.heap.size, 0, none⟩) 0 0).ownBlock) :
    RowU8 w2 A' bs ∧ Below w1.heap.size w1 w2 ∧ (∀ a, A' = some a → w1.heap.size ≤ a.block) := by
  rw [Nat.zero_add, List.nil_append] at hown
  have h1 : OwnB w2 w1.heap.size A' c' bs := ⟨hl, hown⟩
  exact ⟨h1.row.u8, ((Below.refl _ w1).alloc (Nat.le_refl _) _).grown hgr (by simp) (fun j hj => by cases hj; exact Nat.le_refl _), fun a ha => (h1.from a ha).1⟩

set_option maxRecDepth 100000 in
set_option maxHeartbeats 1000000 in
theorem rNext_4 (A : Option Addr) (c : Nat) (xs : List Nat) (most : Int) (w : World) (h : RowU8 w A xs) (hcap : xs.length ≤ c) :
    Calls Try.prog 13 #[.slice A xs.length c, .int .i64 4, .int .i64 most] w (RnPost 4 xs.length w (nextT 4 most xs)) := by
  obtain ⟨i0, hi, hi0, hi1, hi2⟩ := info_parts info_byte
  have HI := Lib.hid (And.intro hi (And.intro hi0 (And.intro hi1 hi2)))
  clear hi hi0 hi1 hi2
  have hz := run_zero_item
  have hz0 := run_build_item0
  have hh := heap_alloc_new w (.cells (item0 0) 33)
  have hb : Below w.heap.size w (w.alloc (.cells (item0 0) 33)) := (Below.refl _ w).alloc (Nat.le_refl _) _
  by_cases hl : 32 ≤ xs.length
  · have HE := Lib.hid (show nextT 4 most xs = .ok ((0, xs.take 32), xs.drop 32) by simp [nextT, takeT, hl])
    have tl : decide ((xs.length : Int) < 32) = false := by simp; omega
    have hc32 : (32 : Int) ≤ (c : Int) := by omega
    have hbl : (xs.take 32).length = 32 := by rw [List.length_take]; omega
    have hdl : xs.length - (xs.drop 32).length = 32 := by rw [List.length_drop]; omega
    obtain ⟨W, hW⟩ : ∃ W, w.alloc (.cells (item0 0) 33) = W := ⟨_, rfl⟩
    rw [hW] at hh hb
    have hbs := run_empty_bytes W
    have HO := Lib.hid (own_empty W)
    have HV := Lib.hid ((h.take 32).below (hb.trans (((Below.refl _ W).alloc (Nat.le_refl _) (.cells #[] 5)).mono hb.size))).rowv
    have hsW : W.heap.size = w.heap.size + 1 := by rw [← hW]; simp
    have HX := Lib.hid (And.intro h (And.intro hb (And.intro hbl (And.intro hdl hsW))))
    have HH := Lib.hid hh
    clear h hb hl hbl hdl hsW hh
    go_enter Try.func13, Try.ntmps13
    go_wp2_with (first
      | (refine wpList_append_rowv _ rfl (.tmp 36) (.tmp 38) 25 rfl W.heap.size 5 i0 (.int .u8 0) 1 1 Try.underlying25 HI.out.1 HI.out.2.1 HI.out.2.2.1 HI.out.2.2.2 (by rfl) (by omega) (.slice (some ⟨W.heap.size, 0, none⟩) 0 0) 0 [] rfl HO.out A 32 c (u8v (xs.take 32)) rfl HV.out (by rw [u8v_length, HX.out.2.2.1]) (u8v_one _) (by unfold maxLen; omega) (by omega) (by simp) ?_; intro A' c' w2 hown' hgr; have hq := copied (fun x hx => HX.out.1.lt x (List.mem_of_mem_take hx)) HX.out.2.1 (by rw [HX.out.2.2.1]; exact hown') hgr; have hh2 := (hq.2.1.block _ (Array.getElem?_eq_some_iff.1 HH.out).1).trans HH.out; have HQ := Lib.hid hq; clear hq hown' hgr)
      | (refine wpList_store_row rfl 33 (.tmp 6) (.tmp 40) rfl w.heap.size 33 (item0 0) #[.int .i64 4, .int .i64 0, .slice A' 32 c'] rfl rfl hh2 info_item rfl (item_one 4 0 A' 32 c') ?_))
    refine bodyPost_ret (results_cell_tmp2 (p := 6) (s := 7) (u := 8) rfl _ _ w.heap.size _ _ _ _ rfl (setRow_heap _ _ _ #[.int .i64 4, .int .i64 0, .slice A' 32 c'] _ _ hh2) Try.underlying33 rfl info_item) rfl ?_
    rw [HE.out]
    obtain ⟨h, hb, hbl, hdl, hsW⟩ := HX.out
    refine ⟨(hb.trans (HQ.out.2.1.mono hb.size)).trans (below_setRow (Nat.le_refl _) _), A', c', by rw [hdl, hbl]; rfl, HQ.out.1.same fun a ha => heap_setRow_other _ _ _ _ (by have := HQ.out.2.2 a ha; omega), fun a ha => by have := HQ.out.2.2 a ha; omega⟩
  · have HE := Lib.hid (show nextT 4 most xs = .error 6 by simp [nextT, takeT, hl])
    have tl : decide ((xs.length : Int) < 32) = true := by simp; omega
    have hset := setRow_new w (item0 0) (item0 0) 33
    have HB := Lib.hid hb
    clear hb h hl
    go_enter Try.func13, Try.ntmps13
    go_wp2_with (first
      | (refine wpList_store_row rfl 33 (.tmp 6) (.tmp 35) rfl w.heap.size 33 (item0 0) (item0 0) rfl rfl hh info_item rfl item0_one ?_; rw [hset]))
    refine bodyPost_ret (results_cell_tmp2 (p := 6) (s := 7) (u := 8) rfl _ _ w.heap.size _ _ _ _ rfl hh Try.underlying33 rfl info_item) rfl ?_
    rw [HE.out]
    exact ⟨HB.out, rfl, by decide⟩

set_option maxRecDepth 100000 in
set_option maxHeartbeats 2000000 in
theorem rNext_0 (A : Option Addr) (c : Nat) (xs : List Nat) (most : Int) (w : World) (h : RowU8 w A xs) (_hcap : xs.length ≤ c) (_hbig : c ≤ 9223372036854775807) (hm : xs.length ≤ 140737488355328) :
    Calls Try.prog 13 #[.slice A xs.length c, .int .i64 0, .int .i64 most] w (RnPost 0 xs.length w (nextT 0 most xs)) := by
  obtain ⟨i0, hi, hi0, hi1, hi2⟩ := info_parts info_byte
  have HI := Lib.hid (And.intro hi (And.intro hi0 (And.intro hi1 hi2)))
  clear hi hi0 hi1 hi2
  have hz := run_zero_item
  have hz0 := run_build_item0
  obtain ⟨W, hW⟩ : ∃ W, w.alloc (.cells (item0 0) 33) = W := ⟨_, rfl⟩
  have hh : W.heap[w.heap.size]? = some (.cells (item0 0) 33 (0, 0)) := by rw [← hW]; exact heap_alloc_new w _
  have hb : Below w.heap.size w W := by rw [← hW]; exact (Below.refl _ w).alloc (Nat.le_refl _) _
  have hsW : W.heap.size = w.heap.size + 1 := by rw [← hW]; simp
  have HT := Lib.hid (rTake_any A c xs most W (h.below hb) (by omega))
  have HX := Lib.hid (And.intro h (And.intro hb hsW))
  clear h hb hsW
  go_enter Try.func13, Try.ntmps13
  go_wp2_with (fail)
  clear hW
  refine HT.out.mono ?_
  clear HT
  rintro e w1 ⟨rfl, rfl⟩
  cases hr : numT most 0 0 xs with
  | error code =>
    have HE : Hid (nextT 0 most xs = .error code ∧ code ≠ 0) := Lib.hid ⟨by simp [nextT,  hr], numT_code most xs 0 0 code hr⟩
    rw [takeV_error hr]
    dsimp only [triple]
    have tc : ((code : Int) != 0) = true := by have := HE.out.2; simp; omega
    clear hr
    go_wp2_with (first
      | (refine wpList_store_row rfl 33 (.tmp 6) (.tmp 50) rfl w.heap.size 33 (item0 0) (item0 0) rfl rfl hh info_item rfl item0_one ?_))
    refine bodyPost_ret (results_cell_tmp2 (p := 6) (s := 7) (u := 8) rfl _ _ w.heap.size _ _ _ _ rfl (setRow_heap _ _ _ (item0 0) _ _ hh) Try.underlying33 rfl info_item) rfl ?_
    rw [HE.out.1]
    exact ⟨HX.out.2.1.trans (below_setRow (Nat.le_refl _) _), rfl, HE.out.2⟩
  | ok s =>
    obtain ⟨v, ys⟩ := s
    obtain ⟨q, hq0, hql, hqe⟩ := numT_suffix most xs 0 0 v ys hr
    have hyl : ys.length = xs.length - q := by rw [hqe, List.length_drop]
    have hvlt := numT_lt most xs 0 0 v ys (by decide) hr
    rw [takeV_ok (k := q) hr (by omega)]
    dsimp only [triple]
    have HE : Hid (nextT 0 most xs = .ok ((v, []), ys) ∧ xs.length - ys.length = q) := Lib.hid ⟨by simp [nextT, hr], by omega⟩
    clear hr hyl hqe hq0 hql
    go_wp2_with (first
      | (refine wpList_store_row rfl 33 (.tmp 6) (.tmp 60) rfl w.heap.size 33 (item0 0) #[.int .i64 0, .int .i64 (v : Int), .slice none 0 0] rfl rfl hh info_item rfl (item_one 0 v none 0 0) ?_))
    refine bodyPost_ret (results_cell_tmp2 (p := 6) (s := 7) (u := 8) rfl _ _ w.heap.size _ _ _ _ rfl (setRow_heap _ _ _ #[.int .i64 0, .int .i64 (v : Int), .slice none 0 0] _ _ hh) Try.underlying33 rfl info_item) rfl ?_
    rw [HE.out.1]
    exact ⟨HX.out.2.1.trans (below_setRow (Nat.le_refl _) _), none, 0, by rw [HE.out.2]; rfl, row_nil _ _, fun _ h => by cases h⟩

set_option maxRecDepth 100000 in
set_option maxHeartbeats 2000000 in
theorem rNext_5 (A : Option Addr) (c : Nat) (xs : List Nat) (most : Int) (w : World) (h : RowU8 w A xs) (_hcap : xs.length ≤ c) (_hbig : c ≤ 9223372036854775807) (hm : xs.length ≤ 140737488355328) :
    Calls Try.prog 13 #[.slice A xs.length c, .int .i64 5, .int .i64 most] w (RnPost 5 xs.length w (nextT 5 most xs)) := by
  obtain ⟨i0, hi, hi0, hi1, hi2⟩ := info_parts info_byte
  have HI := Lib.hid (And.intro hi (And.intro hi0 (And.intro hi1 hi2)))
  clear hi hi0 hi1 hi2
  have hz := run_zero_item
  have hz0 := run_build_item0
  obtain ⟨W, hW⟩ : ∃ W, w.alloc (.cells (item0 0) 33) = W := ⟨_, rfl⟩
  have hh : W.heap[w.heap.size]? = some (.cells (item0 0) 33 (0, 0)) := by rw [← hW]; exact heap_alloc_new w _
  have hb : Below w.heap.size w W := by rw [← hW]; exact (Below.refl _ w).alloc (Nat.le_refl _) _
  have hsW : W.heap.size = w.heap.size + 1 := by rw [← hW]; simp
  have HT := Lib.hid (rTake_any A c xs most W (h.below hb) (by omega))
  have HX := Lib.hid (And.intro h (And.intro hb hsW))
  clear h hb hsW
  go_enter Try.func13, Try.ntmps13
  go_wp2_with (fail)
  clear hW
  refine HT.out.mono ?_
  clear HT
  rintro e w1 ⟨rfl, rfl⟩
  cases hr : numT most 0 0 xs with
  | error code =>
    have HE : Hid (nextT 5 most xs = .error code ∧ code ≠ 0) := Lib.hid ⟨by simp [nextT,  hr], numT_code most xs 0 0 code hr⟩
    rw [takeV_error hr]
    dsimp only [triple]
    have tc : ((code : Int) != 0) = true := by have := HE.out.2; simp; omega
    clear hr
    go_wp2_with (first
      | (refine wpList_store_row rfl 33 (.tmp 6) (.tmp 50) rfl w.heap.size 33 (item0 0) (item0 0) rfl rfl hh info_item rfl item0_one ?_))
    refine bodyPost_ret (results_cell_tmp2 (p := 6) (s := 7) (u := 8) rfl _ _ w.heap.size _ _ _ _ rfl (setRow_heap _ _ _ (item0 0) _ _ hh) Try.underlying33 rfl info_item) rfl ?_
    rw [HE.out.1]
    exact ⟨HX.out.2.1.trans (below_setRow (Nat.le_refl _) _), rfl, HE.out.2⟩
  | ok s =>
    obtain ⟨v, ys⟩ := s
    obtain ⟨q, hq0, hql, hqe⟩ := numT_suffix most xs 0 0 v ys hr
    have hyl : ys.length = xs.length - q := by rw [hqe, List.length_drop]
    have hvlt := numT_lt most xs 0 0 v ys (by decide) hr
    rw [takeV_ok (k := q) hr (by omega)]
    dsimp only [triple]
    have HE : Hid (nextT 5 most xs = .ok ((v, []), ys) ∧ xs.length - ys.length = q) := Lib.hid ⟨by simp [nextT, hr], by omega⟩
    clear hr hyl hqe hq0 hql
    go_wp2_with (first
      | (refine wpList_store_row rfl 33 (.tmp 6) (.tmp 60) rfl w.heap.size 33 (item0 0) #[.int .i64 5, .int .i64 (v : Int), .slice none 0 0] rfl rfl hh info_item rfl (item_one 5 v none 0 0) ?_))
    refine bodyPost_ret (results_cell_tmp2 (p := 6) (s := 7) (u := 8) rfl _ _ w.heap.size _ _ _ _ rfl (setRow_heap _ _ _ #[.int .i64 5, .int .i64 (v : Int), .slice none 0 0] _ _ hh) Try.underlying33 rfl info_item) rfl ?_
    rw [HE.out.1]
    exact ⟨HX.out.2.1.trans (below_setRow (Nat.le_refl _) _), none, 0, by rw [HE.out.2]; rfl, row_nil _ _, fun _ h => by cases h⟩

set_option maxRecDepth 100000 in
set_option maxHeartbeats 2000000 in
theorem rNext_1 (A : Option Addr) (c : Nat) (xs : List Nat) (most : Int) (w : World) (h : RowU8 w A xs) (_hcap : xs.length ≤ c) (_hbig : c ≤ 9223372036854775807) (hm : xs.length ≤ 140737488355328) :
    Calls Try.prog 13 #[.slice A xs.length c, .int .i64 1, .int .i64 most] w (RnPost 1 xs.length w (nextT 1 most xs)) := by
  obtain ⟨i0, hi, hi0, hi1, hi2⟩ := info_parts info_byte
  have HI := Lib.hid (And.intro hi (And.intro hi0 (And.intro hi1 hi2)))
  clear hi hi0 hi1 hi2
  have hz := run_zero_item
  have hz0 := run_build_item0
  obtain ⟨W, hW⟩ : ∃ W, w.alloc (.cells (item0 0) 33) = W := ⟨_, rfl⟩
  have hh : W.heap[w.heap.size]? = some (.cells (item0 0) 33 (0, 0)) := by rw [← hW]; exact heap_alloc_new w _
  have hb : Below w.heap.size w W := by rw [← hW]; exact (Below.refl _ w).alloc (Nat.le_refl _) _
  have hsW : W.heap.size = w.heap.size + 1 := by rw [← hW]; simp
  have HT := Lib.hid (rTake_any A c xs most W (h.below hb) (by omega))
  have HX := Lib.hid (And.intro h (And.intro hb hsW))
  clear h hb hsW
  go_enter Try.func13, Try.ntmps13
  go_wp2_with (fail)
  clear hW
  refine HT.out.mono ?_
  clear HT
  rintro e w1 ⟨rfl, rfl⟩
  cases hr : numT most 0 0 xs with
  | error code =>
    have HE : Hid (nextT 1 most xs = .error code ∧ code ≠ 0) := Lib.hid ⟨by simp [nextT, bytesT, hr], numT_code most xs 0 0 code hr⟩
    rw [takeV_error hr]
    dsimp only [triple]
    have tc : ((code : Int) != 0) = true := by have := HE.out.2; simp; omega
    clear hr
    go_wp2_with (first
      | (refine wpList_store_row rfl 33 (.tmp 6) (.tmp 50) rfl w.heap.size 33 (item0 0) (item0 0) rfl rfl hh info_item rfl item0_one ?_))
    refine bodyPost_ret (results_cell_tmp2 (p := 6) (s := 7) (u := 8) rfl _ _ w.heap.size _ _ _ _ rfl (setRow_heap _ _ _ (item0 0) _ _ hh) Try.underlying33 rfl info_item) rfl ?_
    rw [HE.out.1]
    exact ⟨HX.out.2.1.trans (below_setRow (Nat.le_refl _) _), rfl, HE.out.2⟩
  | ok s =>
    obtain ⟨v, ys⟩ := s
    obtain ⟨q, hq0, hql, hqe⟩ := numT_suffix most xs 0 0 v ys hr
    have hyl : ys.length = xs.length - q := by rw [hqe, List.length_drop]
    have hvlt := numT_lt most xs 0 0 v ys (by decide) hr
    rw [takeV_ok (k := q) hr (by omega)]
    dsimp only [triple]
    by_cases hn : v ≤ ys.length
    · have hbl : ((xs.drop q).take v).length = v := by rw [List.length_take, ← hqe]; omega
      have HE : Hid (nextT 1 most xs = .ok ((0, (xs.drop q).take v), (xs.drop q).drop v) ∧ xs.length - ((xs.drop q).drop v).length = q + v) := Lib.hid ⟨by
        have hbt : bytesT most xs = .ok (ys.take v, ys.drop v) := by unfold bytesT; rw [hr]; exact if_pos hn
        unfold nextT; rw [if_pos (by decide), hbt, hqe], by rw [List.length_drop, ← hqe]; omega⟩
      have tn : decide ((v : Int) > (xs.length : Int) - (q : Int)) = false := by simp; omega
      have hqv : q + v ≤ xs.length := by omega
      have hbs := run_empty_bytes W
      have HO := Lib.hid (own_empty W)
      have HVa := Lib.hid ((HX.out.1.sub q v).below (HX.out.2.1.trans (((Below.refl _ W).alloc (Nat.le_refl _) (.cells #[] 5)).mono HX.out.2.1.size))).rowv
      have HBl := Lib.hid hbl
      have HH := Lib.hid hh
      obtain ⟨bs, hbse⟩ : ∃ bs, (xs.drop q).take v = bs := ⟨_, rfl⟩
      rw [hbse] at HE HVa HBl
      have HLt : Hid (∀ x ∈ bs, x < 256) := Lib.hid (by rw [← hbse]; exact (HX.out.1.sub q v).lt)
      clear hr hyl hqe hq0 hn hbl hh hbse hql
      by_cases hcq : c = q
      · obtain rfl : v = 0 := by omega
        have hbs0 : bs = [] := List.eq_nil_of_length_eq_zero HBl.out
        subst hbs0
        subst hcq
        obtain rfl : c = xs.length := by omega
        clear tn hqv
        have tn : decide ((xs.length : Int) - (xs.length : Int) < 0) = false := by simp
        have HVa : Hid (RowV (W.alloc (.cells #[] 5)) A (u8v ([] : List Nat))) := Lib.hid (RowV.nil _ _)
        go_wp2_with (first
          | (refine wpList_append_rowv _ rfl (.tmp 70) (.tmp 76) 25 rfl W.heap.size 5 i0 (.int .u8 0) 1 1 Try.underlying25 HI.out.1 HI.out.2.1 HI.out.2.2.1 HI.out.2.2.2 (by rfl) (by omega) (.slice (some ⟨W.heap.size, 0, none⟩) 0 0) 0 [] rfl HO.out A 0 0 (u8v []) rfl HVa.out (by rw [u8v_length, HBl.out, Nat.mul_one]) (u8v_one _) (by unfold maxLen; omega) (by omega) (by simp) ?_; intro A' c' w2 hown' hgr; have hq := copied HLt.out HX.out.2.1 (by rw [HBl.out]; exact hown') hgr; have hh2 := (hq.2.1.block _ (Array.getElem?_eq_some_iff.1 HH.out).1).trans HH.out; have HQ := Lib.hid hq; clear hq hown' hgr)
          | (refine wpList_store_row rfl 33 (.tmp 6) (.tmp 78) rfl w.heap.size 33 (item0 0) #[.int .i64 1, .int .i64 0, .slice A' 0 c'] rfl rfl hh2 info_item rfl (item_one 1 0 A' 0 c') ?_))
        refine bodyPost_ret (results_cell_tmp2 (p := 6) (s := 7) (u := 8) rfl _ _ w.heap.size _ _ _ _ rfl (setRow_heap _ _ _ #[.int .i64 1, .int .i64 0, .slice A' 0 c'] _ _ hh2) Try.underlying33 rfl info_item) rfl ?_
        rw [HE.out.1]
        obtain ⟨h, hb, hsW⟩ := HX.out
        refine ⟨(hb.trans (HQ.out.2.1.mono hb.size)).trans (below_setRow (Nat.le_refl _) _), A', c', ?_, HQ.out.1.same fun a ha => heap_setRow_other _ _ _ _ (by have := HQ.out.2.2 a ha; omega), fun a ha => by have := HQ.out.2.2 a ha; omega⟩
        rw [HE.out.2, HBl.out]
        rfl
      · have hcq' : ¬ (c : Int) = (q : Int) := by omega
        go_wp2_with (first
          | (refine wpList_append_rowv _ rfl (.tmp 70) (.tmp 76) 25 rfl W.heap.size 5 i0 (.int .u8 0) 1 1 Try.underlying25 HI.out.1 HI.out.2.1 HI.out.2.2.1 HI.out.2.2.2 (by rfl) (by omega) (.slice (some ⟨W.heap.size, 0, none⟩) 0 0) 0 [] rfl HO.out (A.map (·.add q)) (q + v - q) (c - q) (u8v bs) rfl HVa.out (by rw [u8v_length, HBl.out, Nat.mul_one]; omega) (u8v_one _) (by unfold maxLen; omega) (by omega) (by simp) ?_; intro A' c' w2 hown' hgr; have hq := copied HLt.out HX.out.2.1 (by rw [HBl.out]; have e : q + v - q = v := Nat.add_sub_cancel_left ..; rw [e] at hown'; exact hown') hgr; have hh2 := (hq.2.1.block _ (Array.getElem?_eq_some_iff.1 HH.out).1).trans HH.out; have HQ := Lib.hid hq; clear hq hown' hgr)
          | (refine wpList_store_row rfl 33 (.tmp 6) (.tmp 78) rfl w.heap.size 33 (item0 0) #[.int .i64 1, .int .i64 0, .slice A' v c'] rfl rfl hh2 info_item rfl (item_one 1 0 A' v c') ?_))
        refine bodyPost_ret (results_cell_tmp2 (p := 6) (s := 7) (u := 8) rfl _ _ w.heap.size _ _ _ _ rfl (setRow_heap _ _ _ #[.int .i64 1, .int .i64 0, .slice A' v c'] _ _ hh2) Try.underlying33 rfl info_item) rfl ?_
        rw [HE.out.1]
        obtain ⟨h, hb, hsW⟩ := HX.out
        refine ⟨(hb.trans (HQ.out.2.1.mono hb.size)).trans (below_setRow (Nat.le_refl _) _), A', c', ?_, HQ.out.1.same fun a ha => heap_setRow_other _ _ _ _ (by have := HQ.out.2.2 a ha; omega), fun a ha => by have := HQ.out.2.2 a ha; omega⟩
        rw [HE.out.2, HBl.out]
        rfl
    · have HE : Hid (nextT 1 most xs = .error 6) := Lib.hid (by simp [nextT, bytesT, hr, hn])
      have tn : decide ((v : Int) > (xs.length : Int) - (q : Int)) = true := by simp; omega
      clear hr hyl hqe hq0 hn
      go_wp2_with (first
        | (refine wpList_store_row rfl 33 (.tmp 6) (.tmp 68) rfl w.heap.size 33 (item0 0) (item0 0) rfl rfl hh info_item rfl item0_one ?_))
      refine bodyPost_ret (results_cell_tmp2 (p := 6) (s := 7) (u := 8) rfl _ _ w.heap.size _ _ _ _ rfl (setRow_heap _ _ _ (item0 0) _ _ hh) Try.underlying33 rfl info_item) rfl ?_
      rw [HE.out]
      exact ⟨HX.out.2.1.trans (below_setRow (Nat.le_refl _) _), rfl, by decide⟩

set_option maxRecDepth 100000 in
set_option maxHeartbeats 2000000 in
theorem rNext_2 (A : Option Addr) (c : Nat) (xs : List Nat) (most : Int) (w : World) (h : RowU8 w A xs) (_hcap : xs.length ≤ c) (_hbig : c ≤ 9223372036854775807) (hm : xs.length ≤ 140737488355328) :
    Calls Try.prog 13 #[.slice A xs.length c, .int .i64 2, .int .i64 most] w (RnPost 2 xs.length w (nextT 2 most xs)) := by
  obtain ⟨i0, hi, hi0, hi1, hi2⟩ := info_parts info_byte
  have HI := Lib.hid (And.intro hi (And.intro hi0 (And.intro hi1 hi2)))
  clear hi hi0 hi1 hi2
  have hz := run_zero_item
  have hz0 := run_build_item0
  obtain ⟨W, hW⟩ : ∃ W, w.alloc (.cells (item0 0) 33) = W := ⟨_, rfl⟩
  have hh : W.heap[w.heap.size]? = some (.cells (item0 0) 33 (0, 0)) := by rw [← hW]; exact heap_alloc_new w _
  have hb : Below w.heap.size w W := by rw [← hW]; exact (Below.refl _ w).alloc (Nat.le_refl _) _
  have hsW : W.heap.size = w.heap.size + 1 := by rw [← hW]; simp
  have HT := Lib.hid (rTake_any A c xs most W (h.below hb) (by omega))
  have HX := Lib.hid (And.intro h (And.intro hb hsW))
  clear h hb hsW
  go_enter Try.func13, Try.ntmps13
  go_wp2_with (fail)
  clear hW
  refine HT.out.mono ?_
  clear HT
  rintro e w1 ⟨rfl, rfl⟩
  cases hr : numT most 0 0 xs with
  | error code =>
    have HE : Hid (nextT 2 most xs = .error code ∧ code ≠ 0) := Lib.hid ⟨by simp [nextT, bytesT, hr], numT_code most xs 0 0 code hr⟩
    rw [takeV_error hr]
    dsimp only [triple]
    have tc : ((code : Int) != 0) = true := by have := HE.out.2; simp; omega
    clear hr
    go_wp2_with (first
      | (refine wpList_store_row rfl 33 (.tmp 6) (.tmp 50) rfl w.heap.size 33 (item0 0) (item0 0) rfl rfl hh info_item rfl item0_one ?_))
    refine bodyPost_ret (results_cell_tmp2 (p := 6) (s := 7) (u := 8) rfl _ _ w.heap.size _ _ _ _ rfl (setRow_heap _ _ _ (item0 0) _ _ hh) Try.underlying33 rfl info_item) rfl ?_
    rw [HE.out.1]
    exact ⟨HX.out.2.1.trans (below_setRow (Nat.le_refl _) _), rfl, HE.out.2⟩
  | ok s =>
    obtain ⟨v, ys⟩ := s
    obtain ⟨q, hq0, hql, hqe⟩ := numT_suffix most xs 0 0 v ys hr
    have hyl : ys.length = xs.length - q := by rw [hqe, List.length_drop]
    have hvlt := numT_lt most xs 0 0 v ys (by decide) hr
    rw [takeV_ok (k := q) hr (by omega)]
    dsimp only [triple]
    by_cases hn : v ≤ ys.length
    · have hbl : ((xs.drop q).take v).length = v := by rw [List.length_take, ← hqe]; omega
      have HE : Hid (nextT 2 most xs = .ok ((0, (xs.drop q).take v), (xs.drop q).drop v) ∧ xs.length - ((xs.drop q).drop v).length = q + v) := Lib.hid ⟨by
        have hbt : bytesT most xs = .ok (ys.take v, ys.drop v) := by unfold bytesT; rw [hr]; exact if_pos hn
        unfold nextT; rw [if_pos (by decide), hbt, hqe], by rw [List.length_drop, ← hqe]; omega⟩
      have tn : decide ((v : Int) > (xs.length : Int) - (q : Int)) = false := by simp; omega
      have hqv : q + v ≤ xs.length := by omega
      have hbs := run_empty_bytes W
      have HO := Lib.hid (own_empty W)
      have HVa := Lib.hid ((HX.out.1.sub q v).below (HX.out.2.1.trans (((Below.refl _ W).alloc (Nat.le_refl _) (.cells #[] 5)).mono HX.out.2.1.size))).rowv
      have HBl := Lib.hid hbl
      have HH := Lib.hid hh
      obtain ⟨bs, hbse⟩ : ∃ bs, (xs.drop q).take v = bs := ⟨_, rfl⟩
      rw [hbse] at HE HVa HBl
      have HLt : Hid (∀ x ∈ bs, x < 256) := Lib.hid (by rw [← hbse]; exact (HX.out.1.sub q v).lt)
      clear hr hyl hqe hq0 hn hbl hh hbse hql
      by_cases hcq : c = q
      · obtain rfl : v = 0 := by omega
        have hbs0 : bs = [] := List.eq_nil_of_length_eq_zero HBl.out
        subst hbs0
        subst hcq
        obtain rfl : c = xs.length := by omega
        clear tn hqv
        have tn : decide ((xs.length : Int) - (xs.length : Int) < 0) = false := by simp
        have HVa : Hid (RowV (W.alloc (.cells #[] 5)) A (u8v ([] : List Nat))) := Lib.hid (RowV.nil _ _)
        go_wp2_with (first
          | (refine wpList_append_rowv _ rfl (.tmp 70) (.tmp 76) 25 rfl W.heap.size 5 i0 (.int .u8 0) 1 1 Try.underlying25 HI.out.1 HI.out.2.1 HI.out.2.2.1 HI.out.2.2.2 (by rfl) (by omega) (.slice (some ⟨W.heap.size, 0, none⟩) 0 0) 0 [] rfl HO.out A 0 0 (u8v []) rfl HVa.out (by rw [u8v_length, HBl.out, Nat.mul_one]) (u8v_one _) (by unfold maxLen; omega) (by omega) (by simp) ?_; intro A' c' w2 hown' hgr; have hq := copied HLt.out HX.out.2.1 (by rw [HBl.out]; exact hown') hgr; have hh2 := (hq.2.1.block _ (Array.getElem?_eq_some_iff.1 HH.out).1).trans HH.out; have HQ := Lib.hid hq; clear hq hown' hgr)
          | (refine wpList_store_row rfl 33 (.tmp 6) (.tmp 78) rfl w.heap.size 33 (item0 0) #[.int .i64 2, .int .i64 0, .slice A' 0 c'] rfl rfl hh2 info_item rfl (item_one 2 0 A' 0 c') ?_))
        refine bodyPost_ret (results_cell_tmp2 (p := 6) (s := 7) (u := 8) rfl _ _ w.heap.size _ _ _ _ rfl (setRow_heap _ _ _ #[.int .i64 2, .int .i64 0, .slice A' 0 c'] _ _ hh2) Try.underlying33 rfl info_item) rfl ?_
        rw [HE.out.1]
        obtain ⟨h, hb, hsW⟩ := HX.out
        refine ⟨(hb.trans (HQ.out.2.1.mono hb.size)).trans (below_setRow (Nat.le_refl _) _), A', c', ?_, HQ.out.1.same fun a ha => heap_setRow_other _ _ _ _ (by have := HQ.out.2.2 a ha; omega), fun a ha => by have := HQ.out.2.2 a ha; omega⟩
        rw [HE.out.2, HBl.out]
        rfl
      · have hcq' : ¬ (c : Int) = (q : Int) := by omega
        go_wp2_with (first
          | (refine wpList_append_rowv _ rfl (.tmp 70) (.tmp 76) 25 rfl W.heap.size 5 i0 (.int .u8 0) 1 1 Try.underlying25 HI.out.1 HI.out.2.1 HI.out.2.2.1 HI.out.2.2.2 (by rfl) (by omega) (.slice (some ⟨W.heap.size, 0, none⟩) 0 0) 0 [] rfl HO.out (A.map (·.add q)) (q + v - q) (c - q) (u8v bs) rfl HVa.out (by rw [u8v_length, HBl.out, Nat.mul_one]; omega) (u8v_one _) (by unfold maxLen; omega) (by omega) (by simp) ?_; intro A' c' w2 hown' hgr; have hq := copied HLt.out HX.out.2.1 (by rw [HBl.out]; have e : q + v - q = v := Nat.add_sub_cancel_left ..; rw [e] at hown'; exact hown') hgr; have hh2 := (hq.2.1.block _ (Array.getElem?_eq_some_iff.1 HH.out).1).trans HH.out; have HQ := Lib.hid hq; clear hq hown' hgr)
          | (refine wpList_store_row rfl 33 (.tmp 6) (.tmp 78) rfl w.heap.size 33 (item0 0) #[.int .i64 2, .int .i64 0, .slice A' v c'] rfl rfl hh2 info_item rfl (item_one 2 0 A' v c') ?_))
        refine bodyPost_ret (results_cell_tmp2 (p := 6) (s := 7) (u := 8) rfl _ _ w.heap.size _ _ _ _ rfl (setRow_heap _ _ _ #[.int .i64 2, .int .i64 0, .slice A' v c'] _ _ hh2) Try.underlying33 rfl info_item) rfl ?_
        rw [HE.out.1]
        obtain ⟨h, hb, hsW⟩ := HX.out
        refine ⟨(hb.trans (HQ.out.2.1.mono hb.size)).trans (below_setRow (Nat.le_refl _) _), A', c', ?_, HQ.out.1.same fun a ha => heap_setRow_other _ _ _ _ (by have := HQ.out.2.2 a ha; omega), fun a ha => by have := HQ.out.2.2 a ha; omega⟩
        rw [HE.out.2, HBl.out]
        rfl
    · have HE : Hid (nextT 2 most xs = .error 6) := Lib.hid (by simp [nextT, bytesT, hr, hn])
      have tn : decide ((v : Int) > (xs.length : Int) - (q : Int)) = true := by simp; omega
      clear hr hyl hqe hq0 hn
      go_wp2_with (first
        | (refine wpList_store_row rfl 33 (.tmp 6) (.tmp 68) rfl w.heap.size 33 (item0 0) (item0 0) rfl rfl hh info_item rfl item0_one ?_))
      refine bodyPost_ret (results_cell_tmp2 (p := 6) (s := 7) (u := 8) rfl _ _ w.heap.size _ _ _ _ rfl (setRow_heap _ _ _ (item0 0) _ _ hh) Try.underlying33 rfl info_item) rfl ?_
      rw [HE.out]
      exact ⟨HX.out.2.1.trans (below_setRow (Nat.le_refl _) _), rfl, by decide⟩

theorem rNext_any (k : Nat) (hk : k < 6) (A : Option Addr) (c : Nat) (xs : List Nat) (most : Int) (w : World) (h : RowU8 w A xs) (hcap : xs.length ≤ c) (hbig : c ≤ 9223372036854775807) (hm : xs.length ≤ 140737488355328) :
    Calls Try.prog 13 #[.slice A xs.length c, .int .i64 (k : Int), .int .i64 most] w (RnPost k xs.length w (nextT k most xs)) := by
  rcases k with _ | _ | _ | _ | _ | _ | k
  · exact rNext_0 A c xs most w h hcap hbig hm
  · exact rNext_1 A c xs most w h hcap hbig hm
  · exact rNext_2 A c xs most w h hcap hbig hm
  · exact rNext_3 A c xs most w h
  · exact rNext_4 A c xs most w h hcap
  · exact rNext_5 A c xs most w h hcap hbig hm
  · omega

end Go.Proofs.Ytbbnmfdhpepdnaa
