/-
  The walk of the law FieldLaws: it returns true, and nothing that lay in memory has turned.
-/
import Derived.Test.YtfmccbijkagfnaaFieldNew
namespace Go.Proofs.Ytfmccbijkagfnaa
open Go.RowKit

/-- the world between two calls of a law: block g holds a field, and nothing of the first world has turned -/
structure Ctx (w0 : World) (g : Nat) (w : World) : Prop where
  field : IsField w g
  below : Below w0.heap.size w0 w
  old : w0.heap.size ≤ g
  lt : g < w.heap.size

theorem Ctx.step {w0 w w' : World} {g : Nat} (h : Ctx w0 g w) (hb : Below w.heap.size w w') : Ctx w0 g w' :=
  ⟨h.field.below hb h.lt, h.below.trans (hb.mono (Nat.le_trans h.old (Nat.le_of_lt h.lt))), h.old, Nat.lt_of_lt_of_le h.lt hb.size⟩
theorem Ctx.alloc {w0 w : World} {g : Nat} (h : Ctx w0 g w) (o : Obj) : Ctx w0 g (w.alloc o) := h.step ((Below.refl _ w).alloc (Nat.le_refl _) o)
theorem Ctx.drewN {w0 w : World} {g : Nat} (h : Ctx w0 g w) (n : Nat) : Ctx w0 g (w.drewN n) := h.step (below_drewN (Below.refl _ w) n)

theorem row_new (w : World) (t : TypeId) (xs : List Nat) (h : ∀ x ∈ xs, x < 256) : RowU8 (w.alloc (.cells (xs.map fun x => Value.int .u8 (x : Nat)).toArray t)) (some ⟨w.heap.size, 0, none⟩) xs := by
  refine ⟨h, fun i hi => ⟨w.heap.size, 0, rfl, ?_⟩⟩
  rw [Nat.zero_add, cell_of_row _ _ _ _ _ _ (heap_alloc_new w _)]
  simp [List.getElem?_eq_getElem hi]

theorem Mul_row {w0 w : World} {g : Nat} (xs : List Nat) (R : Nat) (h : Ctx w0 g w) (hx : ∀ x ∈ xs, x < 256) (hm : xs.length ≤ 100) (hR : gml xs = R) :
    Calls Try.prog 11 #[.pointer (some ⟨g, 0, none⟩), .slice (some ⟨w.heap.size, 0, none⟩) xs.length xs.length] (w.alloc (.cells (xs.map fun x => Value.int .u8 (x : Nat)).toArray 5)) fun e w' => e = .returned (.int .u8 (R : Nat)) ∧ Ctx w0 g w' :=
  (Mul_any g _ _ xs _ (h.alloc _).field (row_new w _ xs hx) (by omega)).mono fun _ _ ⟨he, n, hw⟩ => ⟨by rw [he, hR], by rw [← hw]; exact (h.alloc _).drewN n⟩
theorem Add_row {w0 w : World} {g : Nat} (xs : List Nat) (R : Nat) (h : Ctx w0 g w) (hx : ∀ x ∈ xs, x < 256) (hm : xs.length ≤ 100) (hR : xorl xs = R) :
    Calls Try.prog 12 #[.pointer (some ⟨g, 0, none⟩), .slice (some ⟨w.heap.size, 0, none⟩) xs.length xs.length] (w.alloc (.cells (xs.map fun x => Value.int .u8 (x : Nat)).toArray 5)) fun e w' => e = .returned (.int .u8 (R : Nat)) ∧ Ctx w0 g w' :=
  (Add_any _ _ _ xs _ (row_new w _ xs hx) (by omega)).mono fun _ _ ⟨he, hw⟩ => ⟨by rw [he, hR], by rw [← hw]; exact h.alloc _⟩
theorem New_ctx (w0 w : World) (hb : Below w0.heap.size w0 w) :
    Calls Try.prog 10 #[] w fun e w' => ∃ g, e = .returned (.pointer (some ⟨g, 0, none⟩)) ∧ Ctx w0 g w' :=
  (New_any w).mono fun _ _ ⟨he, hf, hbl, hs⟩ => ⟨w.heap.size, he, hf, hb.trans (hbl.mono hb.size), hb.size, hs⟩

theorem Mul1 {w0 w : World} {g : Nat} (a R : Nat) (h : Ctx w0 g w) (ha : a < 256) (hR : a = R) :
    Calls Try.prog 11 #[.pointer (some ⟨g, 0, none⟩), .slice (some ⟨w.heap.size, 0, none⟩) 1 1] (w.alloc (.cells #[.int .u8 (a : Nat)] 5)) fun e w' => e = .returned (.int .u8 (R : Nat)) ∧ Ctx w0 g w' :=
  Mul_row [a] R h (by simp [ha]) (by simp) (by rw [← hR]; exact Gf.one_gm ha)
theorem Mul2 {w0 w : World} {g : Nat} (a b R : Nat) (h : Ctx w0 g w) (ha : a < 256) (hb : b < 256) (hR : Gf.gm a b = R) :
    Calls Try.prog 11 #[.pointer (some ⟨g, 0, none⟩), .slice (some ⟨w.heap.size, 0, none⟩) 2 2] (w.alloc (.cells #[.int .u8 (a : Nat), .int .u8 (b : Nat)] 5)) fun e w' => e = .returned (.int .u8 (R : Nat)) ∧ Ctx w0 g w' :=
  Mul_row [a, b] R h (by simp [ha, hb]) (by simp) (by rw [← hR]; show Gf.gm (Gf.gm 1 a) b = _; rw [Gf.one_gm ha])
theorem Mul3 {w0 w : World} {g : Nat} (a b c R : Nat) (h : Ctx w0 g w) (ha : a < 256) (hb : b < 256) (hc : c < 256) (hR : Gf.gm (Gf.gm a b) c = R) :
    Calls Try.prog 11 #[.pointer (some ⟨g, 0, none⟩), .slice (some ⟨w.heap.size, 0, none⟩) 3 3] (w.alloc (.cells #[.int .u8 (a : Nat), .int .u8 (b : Nat), .int .u8 (c : Nat)] 5)) fun e w' => e = .returned (.int .u8 (R : Nat)) ∧ Ctx w0 g w' :=
  Mul_row [a, b, c] R h (by simp [ha, hb, hc]) (by simp) (by rw [← hR]; show Gf.gm (Gf.gm (Gf.gm 1 a) b) c = _; rw [Gf.one_gm ha])
theorem Add1 {w0 w : World} {g : Nat} (a R : Nat) (h : Ctx w0 g w) (ha : a < 256) (hR : a = R) :
    Calls Try.prog 12 #[.pointer (some ⟨g, 0, none⟩), .slice (some ⟨w.heap.size, 0, none⟩) 1 1] (w.alloc (.cells #[.int .u8 (a : Nat)] 5)) fun e w' => e = .returned (.int .u8 (R : Nat)) ∧ Ctx w0 g w' :=
  Add_row [a] R h (by simp [ha]) (by simp) (by rw [← hR]; simp [xorl])
theorem Add2 {w0 w : World} {g : Nat} (a b R : Nat) (h : Ctx w0 g w) (ha : a < 256) (hb : b < 256) (hR : a ^^^ b = R) :
    Calls Try.prog 12 #[.pointer (some ⟨g, 0, none⟩), .slice (some ⟨w.heap.size, 0, none⟩) 2 2] (w.alloc (.cells #[.int .u8 (a : Nat), .int .u8 (b : Nat)] 5)) fun e w' => e = .returned (.int .u8 (R : Nat)) ∧ Ctx w0 g w' :=
  Add_row [a, b] R h (by simp [ha, hb]) (by simp) (by rw [← hR]; simp [xorl])
theorem Add3 {w0 w : World} {g : Nat} (a b c R : Nat) (h : Ctx w0 g w) (ha : a < 256) (hb : b < 256) (hc : c < 256) (hR : (a ^^^ b) ^^^ c = R) :
    Calls Try.prog 12 #[.pointer (some ⟨g, 0, none⟩), .slice (some ⟨w.heap.size, 0, none⟩) 3 3] (w.alloc (.cells #[.int .u8 (a : Nat), .int .u8 (b : Nat), .int .u8 (c : Nat)] 5)) fun e w' => e = .returned (.int .u8 (R : Nat)) ∧ Ctx w0 g w' :=
  Add_row [a, b, c] R h (by simp [ha, hb, hc]) (by simp) (by rw [← hR]; simp [xorl])

theorem awake_any (w : World) :
    Calls Try.prog 9 #[] w fun e w' => e = .returned (.bool true) ∧ Below w.heap.size w w' := by
  have hne := fun (w : World) (g : Nat) => (show (binOp .neq 23 (.pointer (some ⟨g, 0, none⟩)) (.pointer none)).run Try.prog w = .ok (.bool true) w by kernel_rfl)
  go_enter Try.func9, Try.ntmps9
  go_wp2_with (fail)
  refine (New_ctx w w (Below.refl _ _)).mono ?_
  rintro e w1 ⟨g, rfl, h1⟩
  go_wp2_with (fail)
  have := Mul2 (w0 := w) (w := w1) (g := g) 2 128 29 h1 (by decide) (by decide) (by decide +kernel)
  refine this.mono ?_
  rintro e w2 ⟨rfl, h2⟩
  go_wp2
  go_ret
  exact ⟨rfl, h2.below⟩

set_option maxRecDepth 100000 in
set_option maxHeartbeats 1000000 in
theorem FieldLaws_walk (a b c : Nat) (w : World) (ha : a < 256) (hb : b < 256) (hc : c < 256) :
    Calls Try.prog 3 #[.int .u8 a, .int .u8 b, .int .u8 c] w fun e w' => e = .returned (.bool true) ∧ Below w.heap.size w w' := by
  obtain ⟨ba, hba⟩ : ∃ r, Gf.gm b a = r := ⟨_, rfl⟩
  obtain ⟨ab, hab⟩ : ∃ r, Gf.gm a b = r := ⟨_, rfl⟩
  obtain ⟨ac, hac⟩ : ∃ r, Gf.gm a c = r := ⟨_, rfl⟩
  obtain ⟨abc, habc⟩ : ∃ r, Gf.gm (Gf.gm a b) c = r := ⟨_, rfl⟩
  obtain ⟨sba, sbah⟩ : ∃ r, b ^^^ a = r := ⟨_, rfl⟩
  obtain ⟨sbc, sbch⟩ : ∃ r, b ^^^ c = r := ⟨_, rfl⟩
  obtain ⟨sabc, sabch⟩ : ∃ r, (a ^^^ b) ^^^ c = r := ⟨_, rfl⟩
  obtain ⟨d, hd⟩ : ∃ r, Gf.gm a (b ^^^ c) = r := ⟨_, rfl⟩
  have e1 : Gf.gm c ba = abc := by rw [← habc, ← hba, Gf.gm_comm c, Gf.gm_comm b a]
  have e2 : c ^^^ sba = sabc := by rw [← sabch, ← sbah, Nat.xor_comm c, Nat.xor_comm b a]
  have e3 : ab ^^^ ac = d := by rw [← hab, ← hac, ← hd, Gf.gm_xor ha hb hc]
  have e4 : (a ^^^ b) ^^^ a = b := by rw [Nat.xor_comm a b, Nat.xor_assoc, Nat.xor_self, Nat.xor_zero]
  have b1 : ba < 256 := by rw [← hba]; exact Gf.gm_lt _ _
  have b2 : ab < 256 := by rw [← hab]; exact Gf.gm_lt _ _
  have b3 : ac < 256 := by rw [← hac]; exact Gf.gm_lt _ _
  have b4 : sba < 256 := by rw [← sbah]; exact Gf.xor_lt hb ha
  have b5 : sbc < 256 := by rw [← sbch]; exact Gf.xor_lt hb hc
  have hd' : Gf.gm a sbc = d := by rw [← sbch]; exact hd
  have E := Lib.hid (And.intro hba (And.intro habc (And.intro e1 (And.intro sabch (And.intro sbah (And.intro e2 (And.intro sbch (And.intro hd' (And.intro hab (And.intro hac (And.intro e3 e4)))))))))))
  clear hba hab hac habc sbah sbch sabch hd e1 e2 e3 e4 hd'
  go_enter Try.func3, Try.ntmps3
  go_wp2_with (fail)
  refine (awake_any w).mono ?_
  rintro e w1 ⟨rfl, h1⟩
  go_wp2_with (fail)
  refine (New_ctx w w1 h1).mono ?_
  rintro e w2 ⟨g, rfl, h2⟩
  go_wp2_with (fail)
  refine (Mul3 a b c abc h2 ha hb hc E.out.2.1).mono ?_
  rintro e w3 ⟨rfl, h3⟩
  go_wp2_with (fail)
  refine (Mul2 b a ba h3 hb ha E.out.1).mono ?_
  rintro e w4 ⟨rfl, h4⟩
  go_wp2_with (fail)
  refine (Mul2 c ba abc h4 hc b1 E.out.2.2.1).mono ?_
  rintro e w5 ⟨rfl, h5⟩
  go_wp2_with (fail)
  refine (Add3 a b c sabc h5 ha hb hc E.out.2.2.2.1).mono ?_
  rintro e w6 ⟨rfl, h6⟩
  go_wp2_with (fail)
  refine (Add2 b a sba h6 hb ha E.out.2.2.2.2.1).mono ?_
  rintro e w7 ⟨rfl, h7⟩
  go_wp2_with (fail)
  refine (Add2 c sba sabc h7 hc b4 E.out.2.2.2.2.2.1).mono ?_
  rintro e w8 ⟨rfl, h8⟩
  go_wp2_with (fail)
  refine (Add2 b c sbc h8 hb hc E.out.2.2.2.2.2.2.1).mono ?_
  rintro e w9 ⟨rfl, h9⟩
  go_wp2_with (fail)
  refine (Mul2 a sbc d h9 ha b5 E.out.2.2.2.2.2.2.2.1).mono ?_
  rintro e w10 ⟨rfl, h10⟩
  go_wp2_with (fail)
  refine (Mul2 a b ab h10 ha hb E.out.2.2.2.2.2.2.2.2.1).mono ?_
  rintro e w11 ⟨rfl, h11⟩
  go_wp2_with (fail)
  refine (Mul2 a c ac h11 ha hc E.out.2.2.2.2.2.2.2.2.2.1).mono ?_
  rintro e w12 ⟨rfl, h12⟩
  go_wp2_with (fail)
  refine (Add2 ab ac d h12 b2 b3 E.out.2.2.2.2.2.2.2.2.2.2.1).mono ?_
  rintro e w13 ⟨rfl, h13⟩
  go_wp2_with (fail)
  refine (Add3 a b a b h13 ha hb ha E.out.2.2.2.2.2.2.2.2.2.2.2).mono ?_
  rintro e w14 ⟨rfl, h14⟩
  go_wp2_with (fail)
  go_ret
  exact ⟨rfl, h14.below⟩

end Go.Proofs.Ytfmccbijkagfnaa
