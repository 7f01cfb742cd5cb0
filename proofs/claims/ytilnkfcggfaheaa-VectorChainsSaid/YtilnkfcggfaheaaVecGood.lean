/-
  The contract of Good.
-/
import Derived.Test.YtilnkfcggfaheaaVecAwake
namespace Go.Proofs.Ytilnkfcggfaheaa
open Go.RowKit Go.Shelf
attribute [local go_sem] Oper.semAt_some

theorem mem_nzTo (V : List Int) : ∀ (k i : Nat) (hi : i < 16), i < k → V[i]?.getD 0 ≠ 0 → (⟨i, hi⟩ : Fin 16) ∈ nzTo V k
  | 0, _, _, h, _ => by omega
  | k + 1, i, hi, h, hz => by
    by_cases e : i = k
    · subst e
      rw [nzTo_take hi hz]
      simp
    · have ih := mem_nzTo V k i hi (by omega) hz
      unfold nzTo
      split
      · split
        · exact ih
        · exact List.mem_append_left _ ih
      · exact ih
theorem good_nz {V : List Int} (h : ∀ x ∈ nzTo V 16, 0 ≤ V[x.1]?.getD 0 ∧ V[x.1]?.getD 0 ≤ 1099511627776) : good V = true := good_of fun i hi => by
  by_cases hz : V[i]?.getD 0 = 0
  · rw [hz]; omega
  · exact h ⟨i, hi⟩ (mem_nzTo V 16 i hi hi hz)

theorem results_cell_one {P : Program} {fn : Func} {p : Tmp} {ty : TypeId} (h : fn.results = #[.cell p ty]) (tmps : Array Value) (w : World) (g : Nat) (t : TypeId) (b : Bool)
    (hp : tmps.getD p undef = .pointer (some ⟨g, 0, none⟩)) (hg : w.heap[g]? = some (.cells #[.bool b] t (0, 0))) (hu : P.underlying ty = some .bool) :
    (results fn tmps).run P w = .ok (.bool b) w := by
  have hp' : tmps[p]?.getD undef = .pointer (some ⟨g, 0, none⟩) := by simpa using hp
  have hc : w.cell? ⟨g, 0, none⟩ = some (.bool b) := by rw [cell_of_row _ _ _ _ _ _ hg]; rfl
  simp [results, h, hp', asAddr, loadVar, isAgg, run_underlying hu, go_sem, hc]

set_option maxRecDepth 100000 in
set_option maxHeartbeats 4000000 in
theorem vGood_in (V : List Int) (hV : V.length = 16) (hb : ∀ i : Nat, -9223372036854775808 ≤ V[i]?.getD 0 ∧ V[i]?.getD 0 ≤ 9223372036854775807) (w : World) :
    CallsIn Fence.wide 10 Try.prog 12 #[.agg (ivs V)] w fun e W' => e = .returned (.bool (good V)) ∧ Below w.heap.size w W' := by
  have hh1 := heap_alloc2_old w (Obj.cells (ivs V) 25) (Obj.cells #[.bool false] 4)
  have hh2 := heap_alloc2_new w (Obj.cells (ivs V) 25) (Obj.cells #[.bool false] 4)
  have hbl : Below w.heap.size w ((w.alloc (.cells (ivs V) 25)).alloc (.cells #[.bool false] 4)) := ((Below.refl _ w).alloc (Nat.le_refl _) _).alloc (by simp) _
  generalize hW : (w.alloc (.cells (ivs V) 25)).alloc (.cells #[.bool false] 4) = W at hh1 hh2 hbl
  refine callsIn_of_wp_marks Try.func12 rfl trivial ?_ rfl
  simp only [Try.ntmps12, List.size_toArray, List.length_cons, List.length_nil, Nat.reduceAdd, Nat.reduceSub, Array.replicate_succ, Array.replicate_zero, List.push_toArray, List.append_toArray, List.nil_append, List.cons_append]
  gi_wp2_with (first
      | (refine wpListIn_load_row rfl 25 (.tmp 1) rfl w.heap.size rfl 25 (ivs V) (0, 0) _ hh1 Try.underlying25 rfl (vec_info hV) ?_)
      | (refine ⟨trivial, ?_⟩; gi_at_call 26; refine (all_in Fence.wide _ trivial rfl _ _).mono ?_; rintro e w' ⟨rfl, rfl⟩))
  have hsz : w.heap.size + 1 < W.heap.size := (Array.getElem?_eq_some_iff.1 hh2).1
  have hbox := heap_alloc_new W (Obj.cells (ivs V) 25)
  have hb0 := hbl.alloc hbl.size (.cells (ivs V) 25)
  have hk2 := (((Below.refl _ W).alloc (Nat.le_refl _) (.cells (ivs V) 25)).block _ hsz).trans hh2
  have hs0 : W.heap.size < (W.alloc (.cells (ivs V) 25)).heap.size := by simp
  generalize hW0 : W.alloc (.cells (ivs V) 25) = W0 at hbox hb0 hk2 hs0
  refine wpIn_rangeFunc_ownF (w0 := W0) rfl (by omega) (gf := 33) (lb := #[.pointer (some ⟨W.heap.size, 0, none⟩)]) rfl trivial (enters_of Try.func33 (by kernel_rfl) rfl)
      (all_stops Fence.wide _ trivial rfl (by omega) W.heap.size w.heap.size V hV W0 hbox) belowK_t (belowK_b (by omega)) (Below.refl _ _) (fun _ => rfl)
      (fun pre X => (X.heap[w.heap.size + 1]? = some (.cells #[.bool false] 4 (0, 0)) ∧ ∀ x ∈ pre, 0 ≤ V[x.1]?.getD 0 ∧ V[x.1]?.getD 0 ≤ 1099511627776) ∧ Below w.heap.size w X)
      (fun c pre X => (X.heap[w.heap.size + 1]? = some (.cells #[.bool false] 4 (0, 0)) ∧ c = .ret ∧ good V = false) ∧ Below w.heap.size w X)
      (OwnFrom.and (fun pre X Y row hs hg hr2 => ⟨(hg.block _ ?o1 ?o2).trans hs.1, hs.2⟩) (ownFrom_below (Nat.le_refl _) (by omega)))
      (fun c => OwnFrom.and (fun pre X Y row hs hg hr2 => ⟨(hg.block _ ?o3 ?o4).trans hs.1, hs.2⟩) (ownFrom_below (Nat.le_refl _) (by omega)))
      ?start
      (fun x => { tmps := #[.agg (ivs V), .pointer (some ⟨w.heap.size, 0, none⟩), .pointer (some ⟨w.heap.size + 1, 0, none⟩), undef, .int .i64 (V[x.1]?.getD 0), .agg (ivs V), .func (.func 33) #[] #[.pointer (some ⟨W.heap.size, 0, none⟩)], .int .i64 (x.1 : Nat), .int .i64 (V[x.1]?.getD 0), undef, undef, undef, undef, undef, undef], defers := [] }) ?assign ?body ?done ?stop
  case o1 => exact (Array.getElem?_eq_some_iff.1 hs.1).1
  case o2 => intro e; have := (hr2 _ e.symm).1; omega
  case o3 => exact (Array.getElem?_eq_some_iff.1 hs.1).1
  case o4 => intro e; have := (hr2 _ e.symm).1; omega
  case start => exact ⟨⟨hk2, fun x hx => by cases hx⟩, hb0⟩
  case assign =>
    intro l x X K hK
    clear hV hb
    gi_wp2
    exact hK
  case body =>
    rintro l pre ⟨i, hi⟩ X ⟨⟨hc, hall⟩, hB⟩ hlen
    obtain ⟨hb1, hb2⟩ := hb i
    have c1 : X.cell? ⟨w.heap.size + 1, 0, none⟩ = some (.bool false) := by rw [cell_of_row _ _ _ _ _ _ hc]; rfl
    have f1 := frozen_of_row X (w.heap.size + 1) 0 _ _ hc
    have HO := Lib.hid (And.intro hc (And.intro hall hB))
    have HV := Lib.hid hV
    clear hc hall hB hb hV hbox hb0 hk2 hW0 hh1 hh2 hbl
    dsimp only
    by_cases hx : 0 ≤ V[i]?.getD 0 ∧ V[i]?.getD 0 ≤ 1099511627776
    · have HN : Hid (∀ x ∈ pre ++ [⟨i, hi⟩], 0 ≤ V[(x : Fin 16).1]?.getD 0 ∧ V[x.1]?.getD 0 ≤ 1099511627776) := Lib.hid (fun x hx' => by
        rcases List.mem_append.1 hx' with h | h
        · exact HO.out.2.1 x h
        · rw [List.mem_singleton] at h; subst h; exact hx)
      obtain ⟨hx1, hx2⟩ := hx
      generalize V[i]?.getD 0 = q at *
      have t1 : decide (q < 0) = false := by simp; omega
      have t2 : decide (q > 1099511627776) = false := by simp; omega
      gi_wp2
      exact ⟨KeepsOthers.refl _, Below.refl _ _, ⟨HO.out.1, HN.out⟩, HO.out.2.2⟩
    · have HG := Lib.hid (good_no hi hx)
      generalize V[i]?.getD 0 = q at *
      have hfin : KeepsOthers X (X.setCell ⟨w.heap.size + 1, 0, none⟩ (.bool false)) ∧ ((X.setCell ⟨w.heap.size + 1, 0, none⟩ (.bool false)).heap[w.heap.size + 1]? = some (.cells #[.bool false] 4 (0, 0)) ∧ Code.ret = Code.ret ∧ good V = false) ∧ Below w.heap.size w (X.setCell ⟨w.heap.size + 1, 0, none⟩ (.bool false)) :=
        ⟨KeepsOthers.setCell _ _ _, ⟨heap_setCell_same _ _ _ _ _ _ HO.out.1, rfl, HG.out⟩, HO.out.2.2.setCell (p := ⟨w.heap.size + 1, 0, none⟩) (Nat.le_succ _) _⟩
      have HF := Lib.hid hfin
      clear hfin
      by_cases h0 : q < 0
      · have t1 : decide (q < 0) = true := by simp [h0]
        gi_wp2
        exact ⟨HF.out.1, ⟨HF.out.2.1.1, rfl, HF.out.2.1.2.2⟩, HF.out.2.2⟩
      · have t1 : decide (q < 0) = false := by simp; omega
        have t2 : decide (q > 1099511627776) = true := by simp; omega
        gi_wp2
        exact ⟨HF.out.1, ⟨HF.out.2.1.1, rfl, HF.out.2.1.2.2⟩, HF.out.2.2⟩
  case done =>
    rintro D ys X hD rfl ⟨⟨hc, hall⟩, hB⟩ hK
    have c1 : X.cell? ⟨w.heap.size + 1, 0, none⟩ = some (.bool false) := by rw [cell_of_row _ _ _ _ _ _ hc]; rfl
    have f1 := frozen_of_row X (w.heap.size + 1) 0 _ _ hc
    have HG := Lib.hid (good_nz hall)
    have HO := Lib.hid (And.intro hc (And.intro hB hK))
    clear hc hall hB hb hV hbox hb0 hk2 hW0 hh1 hh2 hbl hK
    gi_wp2
    refine leaves_marks (lo := w.heap.size) [D] _ ⟨fun E hE => ?_, by simp⟩ (fun W' hb' hk' => ?_)
    · rw [List.mem_singleton] at hE
      subst hE
      exact ⟨by omega, (Below.heap_setCell _ _ _ _ (by simp; omega)).trans HO.out.2.2⟩
    · have hfin : W'.heap[w.heap.size + 1]? = some (.cells #[.bool true] 4 (0, 0)) := by
        rw [hk' _ (by simp; omega)]
        exact heap_setCell_same _ _ _ _ _ _ HO.out.1
      refine ⟨.bool true, results_cell_one (p := 2) rfl _ W' (w.heap.size + 1) _ _ rfl hfin Try.underlying4, by rw [HG.out], ?_⟩
      exact (HO.out.2.1.setCell (p := ⟨w.heap.size + 1, 0, none⟩) (Nat.le_succ _) _).trans hb'
  case stop =>
    rintro D c pre X hD hpre ⟨⟨hc, rfl, hg⟩, hB⟩ hK
    have HO := Lib.hid (And.intro hc (And.intro hB hK))
    have HG := Lib.hid hg
    clear hc hB hb hV hbox hb0 hk2 hW0 hh1 hh2 hbl hK hg
    gi_wp2
    refine leaves_marks (lo := w.heap.size) [D] _ ⟨fun E hE => ?_, by simp⟩ (fun W' hb' hk' => ?_)
    · rw [List.mem_singleton] at hE
      subst hE
      exact ⟨by omega, HO.out.2.2⟩
    · have hfin : W'.heap[w.heap.size + 1]? = some (.cells #[.bool false] 4 (0, 0)) := by
        rw [hk' _ (by simp; omega)]
        exact HO.out.1
      refine ⟨.bool false, results_cell_one (p := 2) rfl _ W' (w.heap.size + 1) _ _ rfl hfin Try.underlying4, by rw [HG.out], ?_⟩
      exact HO.out.2.1.trans hb'

theorem vGood_any (V : List Int) (hV : V.length = 16) (hb : ∀ i : Nat, -9223372036854775808 ≤ V[i]?.getD 0 ∧ V[i]?.getD 0 ≤ 9223372036854775807) (w : World) :
    Calls Try.prog 12 #[.agg (ivs V)] w fun e W' => e = .returned (.bool (good V)) ∧ Below w.heap.size w W' :=
  callsIn_wide.1 (vGood_in V hV hb w)

end Go.Proofs.Ytilnkfcggfaheaa
