/-
  The contract of vector.Merge: the greatest numbers.
-/
import Derived.Test.YtilnkfcggfaheaaVecAll
import Derived.Deep.WholeRow
namespace Go.Proofs.Ytilnkfcggfaheaa
open Go.RowKit Go.Shelf
attribute [local go_sem] Oper.semAt_some

def zeros : List Int := List.replicate 16 0
def vz : Array Value := ivs zeros
theorem run_zero_vec (w : World) : (zeroValue 25).run Try.prog w = .ok (.agg vz) w := by kernel_rfl

/-! ## vectors as lists of numbers -/
/-- a number of each of 16 replicas, from 0 on, bounded -/
structure VecOk (V : List Int) : Prop where
  len : V.length = 16
  lo : ∀ i : Nat, 0 ≤ V[i]?.getD 0
  hi : ∀ i : Nat, V[i]?.getD 0 ≤ 4611686018427387904
theorem zeros_get (i : Nat) : zeros[i]?.getD 0 = 0 := by
  unfold zeros
  rw [List.getElem?_replicate]
  split <;> rfl
theorem zeros_ok : VecOk zeros := ⟨rfl, fun i => by rw [zeros_get]; omega, fun i => by rw [zeros_get]; omega⟩
/-- one more number taken in -/
def upd1 (V U : List Int) (i : Fin 16) : List Int := U.set i.1 (max (U[i.1]?.getD 0) (V[i.1]?.getD 0))
def upd (V U : List Int) (ps : List (Fin 16)) : List Int := ps.foldl (upd1 V) U
theorem upd_snoc (V U : List Int) (ps : List (Fin 16)) (p : Fin 16) : upd V U (ps ++ [p]) = upd1 V (upd V U ps) p := by simp [upd]
theorem upd1_length (V U : List Int) (p : Fin 16) : (upd1 V U p).length = U.length := by simp [upd1]
theorem upd_length (V U : List Int) (ps : List (Fin 16)) : (upd V U ps).length = U.length := by
  induction ps generalizing U with
  | nil => rfl
  | cons p ps ih => show (upd V (upd1 V U p) ps).length = _; rw [ih, upd1_length]
/-- the greatest numbers of two -/
def mg (U V : List Int) : List Int := (List.range 16).map fun i => max (U[i]?.getD 0) (V[i]?.getD 0)
theorem mg_length (U V : List Int) : (mg U V).length = 16 := by simp [mg]
theorem mg_get (U V : List Int) (i : Nat) (h : i < 16) : (mg U V)[i]?.getD 0 = max (U[i]?.getD 0) (V[i]?.getD 0) := by simp [mg, h]
theorem mg_ok {U V : List Int} (hU : VecOk U) (hV : VecOk V) : VecOk (mg U V) := by
  refine ⟨mg_length U V, fun i => ?_, fun i => ?_⟩
  · rcases Nat.lt_or_ge i 16 with h | h
    · rw [mg_get _ _ _ h]; have := hU.lo i; omega
    · rw [List.getElem?_eq_none (by rw [mg_length]; exact h)]; simp
  · rcases Nat.lt_or_ge i 16 with h | h
    · rw [mg_get _ _ _ h]; have := hU.hi i; have := hV.hi i; omega
    · rw [List.getElem?_eq_none (by rw [mg_length]; exact h)]; simp
theorem upd_get {U V : List Int} (hU : VecOk U) (hV : VecOk V) : ∀ k, k ≤ 16 → ∀ i, i < 16 → (upd V U (nzTo V k))[i]?.getD 0 = if i < k then max (U[i]?.getD 0) (V[i]?.getD 0) else U[i]?.getD 0
  | 0, _, i, _ => by rw [nzTo_zero, if_neg (by omega)]; rfl
  | k + 1, hk, i, hi => by
    have ih := upd_get hU hV k (by omega) i hi
    by_cases hz : V[k]?.getD 0 = 0
    · rw [nzTo_skip hz, ih]
      by_cases h : i < k
      · rw [if_pos h, if_pos (by omega)]
      · rw [if_neg h]
        by_cases e : i = k
        · subst e; rw [if_pos (by omega), hz]; have := hU.lo i; omega
        · rw [if_neg (by omega)]
    · rw [nzTo_take (show k < 16 by omega) hz, upd_snoc]
      unfold upd1
      have hl : (upd V U (nzTo V k)).length = 16 := by rw [upd_length, hU.len]
      rw [List.getElem?_set]
      by_cases e : k = i
      · subst e
        rw [if_pos rfl, if_pos (by rw [hl]; exact hi), if_pos (by omega)]
        simp only [Option.getD_some]
        rw [ih, if_neg (by omega)]
      · rw [if_neg e, ih]
        by_cases h : i < k
        · rw [if_pos h, if_pos (by omega)]
        · rw [if_neg h, if_neg (by omega)]
theorem ext16 {U V : List Int} (hU : U.length = 16) (hV : V.length = 16) (h : ∀ i, i < 16 → U[i]?.getD 0 = V[i]?.getD 0) : U = V := by
  apply List.ext_getElem (by rw [hU, hV])
  intro i h1 h2
  have := h i (by omega)
  rwa [List.getElem?_eq_getElem h1, List.getElem?_eq_getElem h2] at this
theorem upd_all {U V : List Int} (hU : VecOk U) (hV : VecOk V) : upd V U (nzTo V 16) = mg U V :=
  ext16 (by rw [upd_length, hU.len]) (mg_length _ _) fun i hi => by rw [upd_get hU hV 16 (Nat.le_refl _) i hi, if_pos hi, mg_get _ _ _ hi]
/-- the greatest numbers of several -/
def mgl (Vs : List (List Int)) : List Int := Vs.foldl mg zeros
theorem mgl_ok {Vs : List (List Int)} (h : ∀ V ∈ Vs, VecOk V) : VecOk (mgl Vs) := by
  have : ∀ (l : List (List Int)) (U : List Int), VecOk U → (∀ V ∈ l, VecOk V) → VecOk (l.foldl mg U) := by
    intro l
    induction l with
    | nil => intro U h _; exact h
    | cons V l ih => intro U h hl; exact ih _ (mg_ok h (hl V (List.mem_cons_self ..))) (fun x hx => hl x (List.mem_cons_of_mem _ hx))
  exact this Vs zeros zeros_ok h
theorem mgl_snoc (Vs : List (List Int)) (k : Nat) (h : k < Vs.length) : mgl (Vs.take (k + 1)) = mg (mgl (Vs.take k)) (Vs[k]?.getD []) := by
  unfold mgl
  rw [List.take_succ_eq_append_getElem h, List.foldl_append, List.getElem?_eq_getElem h]; rfl
theorem flat_get {Vs : List (List Int)} (h : ∀ V ∈ Vs, V.length = 16) (k : Nat) (hk : k < Vs.length) (j : Nat) (hj : j < 16) : (Vs.flatMap ivl)[16 * k + j]? = (ivl (Vs[k]?.getD []))[j]? := by
  induction Vs generalizing k with
  | nil => simp at hk
  | cons V Vs ih =>
    have hl : (ivl V).length = 16 := by rw [ivl_length]; exact h V (List.mem_cons_self ..)
    rw [List.flatMap_cons]
    rcases k with _ | k
    · rw [List.getElem?_append_left (by omega)]; simp
    · rw [List.getElem?_append_right (by omega), hl, show 16 * (k + 1) + j - 16 = 16 * k + j by omega, ih (fun V hV => h V (List.mem_cons_of_mem _ hV)) k (by simpa using hk)]
      simp
theorem flat_length {Vs : List (List Int)} (h : ∀ V ∈ Vs, V.length = 16) : (Vs.flatMap ivl).length = 16 * Vs.length := by
  induction Vs with
  | nil => rfl
  | cons V Vs ih =>
    rw [List.flatMap_cons, List.length_append, ivl_length, h V (List.mem_cons_self ..), ih (fun V hV => h V (List.mem_cons_of_mem _ hV)), List.length_cons]
    omega
theorem vec_range {w : World} {A : Option Addr} {Vs : List (List Int)} (hr : RowV w A (Vs.flatMap ivl)) (h : ∀ V ∈ Vs, V.length = 16) (k : Nat) (hk : k < Vs.length) :
    ∃ b off, A = some ⟨b, off, none⟩ ∧ w.rangeAt b (off + k * 16) (ivl (Vs[k]?.getD [])) := by
  have hf := flat_length h
  obtain ⟨b, off, e, hc⟩ := hr.form (by rw [hf]; omega)
  refine ⟨b, off, e, fun j v hv => ?_⟩
  have hj : j < 16 := by
    have hl : (ivl (Vs[k]?.getD [])).length = 16 := by rw [ivl_length, List.getElem?_eq_getElem hk]; exact h _ (List.getElem_mem hk)
    rcases Nat.lt_or_ge j 16 with h' | h'
    · exact h'
    · rw [List.getElem?_eq_none (by omega)] at hv; cases hv
  have := hc (16 * k + j) (by rw [hf]; omega)
  rw [flat_get h k hk j hj, hv] at this
  rw [← this]
  congr 2
  omega

/-! ## leaving a function whose loops over iterators have each left a mark -/
def mark (D : Nat) : Deferred := { target := .collected D, args := #[] }
def MarksOk (lo : Nat) (W : World) (Ds : List Nat) : Prop := (∀ D ∈ Ds, lo ≤ D ∧ W.heap[D]? = some (.deferred (some []))) ∧ Ds.Nodup
theorem leaves_marks {F : Fence} {n : Nat} {P : Program} {fn : Func} {tmps : Array Value} {R : Ending → World → Prop} {lo : Nat} : ∀ (Ds : List Nat) (W : World), MarksOk lo W Ds →
    (∀ W' : World, Below lo W W' → (∀ k, k ∉ Ds → W'.heap[k]? = W.heap[k]?) → ∃ v, (results fn tmps).run P W' = .ok v W' ∧ R (.returned v) W') →
    LeavesInM F n P fn tmps R (Ds.map mark) .returning W
  | [], W, _, h => h W (Below.refl _ _) (fun _ _ => rfl)
  | D :: Ds, W, hm, h => by
    obtain ⟨h1, h2⟩ := hm
    obtain ⟨hD, hB⟩ := h1 D (List.mem_cons_self ..)
    rw [List.nodup_cons] at h2
    have hlt : D < W.heap.size := (Array.getElem?_eq_some_iff.1 hB).1
    refine ⟨by simp, .inl ⟨D, W.putObj D (.deferred none), rfl, run_takeDeferred hB, ?_⟩⟩
    refine leaves_marks (lo := lo) Ds (W.putObj D (.deferred none)) ⟨fun E hE => ?_, h2.2⟩ (fun W' hb hk => h W' ?_ (fun k hk' => ?_))
    · have hne : E ≠ D := by rintro rfl; exact h2.1 hE
      refine ⟨(h1 E (List.mem_cons_of_mem _ hE)).1, ?_⟩
      rw [World.putObj_heap_other hne]
      exact (h1 E (List.mem_cons_of_mem _ hE)).2
    · exact ((Below.refl lo W).grown (grownBy_putObj' W D (.deferred none)) (by omega) (fun k e => by cases e; exact hD)).trans hb
    · rw [List.mem_cons, not_or] at hk'
      rw [hk k hk'.2, World.putObj_heap_other hk'.1]

section
variable {F : Fence} {n : Nat} {P : Program} {ops : Array Oper} {rest : List Oper} {op : Oper} {a : Act} {w : World} {Q : Exit → Act → World → Prop}
/-- a whole array out of the middle of a block, inside a fence -/
theorem wpListIn_load_mid (hgd : op.guard = none) (ty : TypeId) (x : Operand) (ho : op.op = .load ty x)
    (b o : Nat) (hx : a.eval x = .pointer (some ⟨b, o, none⟩)) (cs : List Value) (d : TypeDesc) (hc : w.rangeAt b o cs)
    (hu : P.underlying ty = some d) (hd : d.isRow = true) (hi : (P.info? ty).map (·.size) = some cs.length)
    (h : wpListIn F n P ops Q rest (a.put op.dst (.agg cs.toArray)) w) : wpListIn F n P ops Q (op :: rest) a w := by
  refine wpListIn_plain hgd fun K hK => ?_
  unfold Oper.wpIn
  refine ⟨by simp [Oper.about, ho], ?_⟩
  rw [Oper.semAt_plain F _ _ (by rw [ho]; intro c hc; cases hc)]
  unfold execOp
  simp only [ho, hx, Instr.loadAt, Instr.sureAddr, Sem.run_bind, Sem.run_pure, Result.andThen_ok, run_loadVar_mid w b o ty cs d hc hu hd hi]
  exact hK _ _ h
end

theorem MarksOk.set {lo : Nat} {W : World} {Ds : List Nat} (h : MarksOk lo W Ds) {p : Addr} (hp : p.block < lo) (u : Value) : MarksOk lo (W.setCell p u) Ds :=
  ⟨fun D hD => ⟨(h.1 D hD).1, (Below.heap_setCell W p u D (by have := (h.1 D hD).1; omega)).trans (h.1 D hD).2⟩, h.2⟩
theorem MarksOk.old {lo B : Nat} {W W' : World} {Ds : List Nat} (h : MarksOk lo W Ds) (hb : Below B W W') (hB : W.heap.size ≤ B) : MarksOk lo W' Ds :=
  ⟨fun D hD => ⟨(h.1 D hD).1, (hb.block D (Nat.lt_of_lt_of_le (Array.getElem?_eq_some_iff.1 (h.1 D hD).2).1 hB)).trans (h.1 D hD).2⟩, h.2⟩
theorem ivs_set (V : List Int) (i : Nat) (x : Int) : (ivs V).setIfInBounds i (.int .i64 x) = ivs (V.set i x) := by
  apply Array.ext_getElem?
  intro j
  simp [ivs, ivl, List.getElem?_set]
theorem below_setRow {B g : Nat} {W : World} (h : B ≤ g) (cs : Array Value) : Below B W (W.setRow g cs) :=
  ⟨rfl, rfl, rfl, by simp, fun k hk => setRow_other W g k cs (by omega)⟩
theorem setRow_new (w : World) (c c' : Array Value) (t : TypeId) : (w.alloc (.cells c t)).setRow w.heap.size c' = w.alloc (.cells c' t) := World.setRow_alloc_new w c c' t
/-- what holds at the head of each round of Merge -/
def MI (A : Option Addr) (c len Br Bo : Nat) (Us : Nat → List Int) (w : World) (a : Act) (W : World) : Prop :=
  ∃ (k : Nat) (Ds : List Nat) (u5 u6 u7 u11 u12 u13 u14 u15 u16 u17 u18 u19 u20 u21 u22 u23 u24 u25 : Value),
    a = { tmps := #[.slice A len c, undef, .pointer (some ⟨Br, 0, none⟩), .pointer (some ⟨Bo, 0, none⟩), undef, u5, u6, u7, .slice A len c, .int .i64 (len : Nat), .int .i64 (k : Nat), u11, u12, u13, u14, u15, u16, u17, u18, u19, u20, u21, u22, u23, u24, u25, undef], defers := Ds.map mark } ∧
    k ≤ len ∧ W.heap[Br]? = some (.cells vz 25 (0, 0)) ∧ W.heap[Bo]? = some (.cells (ivs (Us k)) 25 (0, 0)) ∧ Below w.heap.size w W ∧ MarksOk (Bo + 1) W Ds

set_option maxRecDepth 100000 in
set_option maxHeartbeats 4000000 in
theorem Merge_in (A : Option Addr) (c : Nat) (Vs : List (List Int)) (w : World) (hr : RowV w A (Vs.flatMap ivl)) (hok : ∀ V ∈ Vs, VecOk V) (hm : Vs.length ≤ 1099511627776) :
    CallsIn Fence.wide 10 Try.prog 13 #[.slice A Vs.length c] w fun e W' => e = .returned (.agg (ivs (mgl Vs))) ∧ Below w.heap.size w W' := by
  obtain ⟨len, hlen⟩ : ∃ n, n = Vs.length := ⟨_, rfl⟩
  rw [← hlen] at hm ⊢
  have HL := Lib.hid hlen
  clear hlen
  have hz := run_zero_vec
  refine callsIn_of_wp_marks Try.func13 rfl trivial ?_ rfl
  simp only [Try.ntmps13, List.size_toArray, List.length_cons, List.length_nil, Nat.reduceAdd, Nat.reduceSub, Array.replicate_succ, Array.replicate_zero, List.push_toArray, List.append_toArray, List.nil_append, List.cons_append]
  gi_wp2
  have hh1 : ((w.alloc (.cells vz 25)).alloc (.cells vz 25)).heap[w.heap.size]? = some (.cells vz 25 (0, 0)) := heap_alloc2_old w _ _
  have hh2 : ((w.alloc (.cells vz 25)).alloc (.cells vz 25)).heap[w.heap.size + 1]? = some (.cells vz 25 (0, 0)) := heap_alloc2_new w _ _
  have hb0 : Below w.heap.size w ((w.alloc (.cells vz 25)).alloc (.cells vz 25)) := ((Below.refl _ w).alloc (Nat.le_refl _) _).alloc (by simp) _
  refine wpIn_loop (MI A c len w.heap.size (w.heap.size + 1) (fun k => mgl (Vs.take k)) w) (fun a _ => len - (intOf (a.tmps.getD 10 undef)).toNat) ?_ ?_
  · exact ⟨0, [], undef, undef, undef, undef, undef, undef, undef, undef, undef, undef, undef, undef, undef, undef, undef, undef, undef, undef, rfl, Nat.zero_le _, hh1, hh2, hb0, by simp, List.nodup_nil⟩
  clear hh1 hh2 hb0
  rintro a wr hI
  obtain ⟨k, Ds, u5, u6, u7, u11, u12, u13, u14, u15, u16, u17, u18, u19, u20, u21, u22, u23, u24, u25, rfl, hk, hBr, hBo, hbel, hmk⟩ := hI
  by_cases hlt : k < len
  · obtain ⟨b, off, e1, hrg⟩ := vec_range (hr.keep hbel) (fun V hV => (hok V hV).len) k (by rw [← HL.out]; exact hlt)
    subst e1
    have hV : VecOk (Vs[k]?.getD []) := by
      have h' : k < Vs.length := by rw [← HL.out]; exact hlt
      rw [List.getElem?_eq_getElem h']; exact hok _ (List.getElem_mem h')
    have HS := Lib.hid (mgl_snoc Vs k (by rw [← HL.out]; exact hlt))
    generalize Vs[k]?.getD [] = V at hrg hV HS
    have hvzs : vz.size = (ivs V).size := by rw [ivs_size, hV.len]; rfl
    have hn1 := heap_alloc_new wr (Obj.cells vz 25)
    have hn2 := heap_alloc_new wr (Obj.cells (ivs V) 25)
    gi_wp2_with (first
      | (refine wpListIn_load_mid rfl 25 (.tmp 12) rfl b (off + k * 16) rfl (ivl V) _ hrg Try.underlying25 rfl (by rw [ivl_length, hV.len]; exact Try.infoVec) ?_)
      | (refine wpListIn_store_row rfl 25 (.tmp 5) (.tmp 13) rfl wr.heap.size 25 vz (ivs V) rfl rfl hn1 (vec_info hV.len) hvzs (ivs_one V) ?_; rw [setRow_new])
      | (refine wpListIn_load_row rfl 25 (.tmp 5) rfl wr.heap.size rfl 25 (ivs V) (0, 0) _ hn2 Try.underlying25 rfl (vec_info hV.len) ?_)
      | (refine ⟨trivial, ?_⟩; gi_at_call 26; refine (all_in Fence.wide _ trivial rfl _ _).mono ?_; rintro e w' ⟨rfl, rfl⟩))
    clear hn1 hn2
    have hU : VecOk (mgl (Vs.take k)) := mgl_ok (fun X hX => hok X (List.mem_of_mem_take hX))
    have HU := Lib.hid (show mgl (Vs.take (k + 1)) = upd V (mgl (Vs.take k)) (nzTo V 16) by rw [HS.out, upd_all hU hV])
    generalize mgl (Vs.take k) = U at *
    obtain ⟨W0, hW0⟩ : ∃ W0, (wr.alloc (Obj.cells (ivs V) 25)).alloc (Obj.cells (ivs V) 25) = W0 := ⟨_, rfl⟩
    have hsz : W0.heap.size = wr.heap.size + 1 + 1 := by rw [← hW0]; simp
    have hbw : Below wr.heap.size wr W0 := by rw [← hW0]; exact ((Below.refl _ wr).alloc (Nat.le_refl _) _).alloc (by simp) _
    have hbox : W0.heap[wr.heap.size + 1]? = some (.cells (ivs V) 25 (0, 0)) := by rw [← hW0]; exact heap_alloc2_new wr _ _
    have hrl : w.heap.size < wr.heap.size := (Array.getElem?_eq_some_iff.1 hBr).1
    have hol : w.heap.size + 1 < wr.heap.size := (Array.getElem?_eq_some_iff.1 hBo).1
    rw [hW0]
    refine wpIn_rangeFunc_ownF (w0 := W0) rfl (by omega) (gf := 33) (lb := #[.pointer (some ⟨wr.heap.size + 1, 0, none⟩)]) rfl trivial (enters_of Try.func33 (by kernel_rfl) rfl)
      (all_stops Fence.wide _ trivial rfl (by omega) (wr.heap.size + 1) w.heap.size V hV.len W0 hbox) belowK_t (belowK_b (by omega)) (Below.refl _ _) (fun _ => rfl)
      (fun pre W => (W.heap[w.heap.size]? = some (.cells vz 25 (0, 0)) ∧ W.heap[w.heap.size + 1]? = some (.cells (ivs (upd V U pre)) 25 (0, 0)) ∧ MarksOk (w.heap.size + 1 + 1) W Ds ∧ (∀ D ∈ Ds, D < wr.heap.size)) ∧ Below w.heap.size w W)
      (fun _ _ _ => False)
      (OwnFrom.and (fun pre X Y row hs hg hr2 => ⟨(hg.block _ ?o1 ?o2).trans hs.1, (hg.block _ ?o3 ?o4).trans hs.2.1, ?o5, hs.2.2.2⟩) (ownFrom_below (Nat.le_refl _) (by omega)))
      (fun _ _ _ _ _ hs _ _ => hs)
      ?start
      (fun x => { tmps := #[.slice (some ⟨b, off, none⟩) len c, undef, .pointer (some ⟨w.heap.size, 0, none⟩), .pointer (some ⟨w.heap.size + 1, 0, none⟩), undef, .pointer (some ⟨wr.heap.size, 0, none⟩), .int .i64 (x.1 : Nat), .int .i64 (V[x.1]?.getD 0), .slice (some ⟨b, off, none⟩) len c, .int .i64 (len : Nat), .int .i64 (k : Nat), .bool true, .pointer (some ⟨b, off + k * 16, none⟩), .agg (ivl V).toArray, .agg (ivs V), .func (.func 33) #[] #[.pointer (some ⟨wr.heap.size + 1, 0, none⟩)], .int .i64 (x.1 : Nat), .int .i64 (V[x.1]?.getD 0), u18, u19, u20, u21, u22, u23, u24, u25, undef], defers := [] }) ?assign ?body ?done ?stop
    case o1 => exact (Array.getElem?_eq_some_iff.1 hs.1).1
    case o2 => intro e; have := (hr2 _ e.symm).1; omega
    case o3 => exact (Array.getElem?_eq_some_iff.1 hs.2.1).1
    case o4 => intro e; have := (hr2 _ e.symm).1; omega
    case o5 =>
      refine ⟨fun D hD => ⟨(hs.2.2.1.1 D hD).1, ?_⟩, hs.2.2.1.2⟩
      have hq := (hs.2.2.1.1 D hD).2
      refine (hg.block D (Array.getElem?_eq_some_iff.1 hq).1 ?_).trans hq
      intro e; have := (hr2 _ e.symm).1; have := hs.2.2.2 D hD; omega
    case start =>
      exact ⟨⟨(hbw.block _ hrl).trans hBr, (hbw.block _ hol).trans hBo, hmk.old hbw (Nat.le_refl _), fun D hD => (Array.getElem?_eq_some_iff.1 (hmk.1 D hD).2).1⟩, hbel.trans (hbw.mono hbel.size)⟩
    case assign =>
      intro l x W K hK
      gi_wp2
      exact hK
    case body =>
      rintro l pre ⟨i, hi⟩ W ⟨⟨hr1, ho1, hm1, hd1⟩, hB⟩ hlen
      have hUl : (upd V U pre).length = 16 := by rw [upd_length]; exact hU.len
      have HN := Lib.hid (upd_snoc V U pre ⟨i, hi⟩)
      generalize upd V U pre = T at ho1 hUl HN
      have c1 : W.cell? ⟨w.heap.size + 1, i, none⟩ = some (.int .i64 (T[i]?.getD 0)) := by rw [cell_of_row _ _ _ _ _ _ ho1, ivs_get _ _ (by omega)]
      have f1 := frozen_of_row W (w.heap.size + 1) i _ _ ho1
      have HO := Lib.hid (And.intro ho1 (And.intro hr1 (And.intro hm1 (And.intro hd1 hB))))
      clear ho1 hr1 hm1 hd1 hB
      have hx2 : 0 ≤ (V[i]?.getD 0) := hV.lo i
      dsimp only
      generalize hq : V[i]?.getD 0 = q at *
      generalize hp : T[i]?.getD 0 = p at *
      have HPQ := Lib.hid (And.intro hp hq)
      clear hp hq hU HU hV hrg hbox hbw hmk hBr hBo
      have fin : Hid (∀ m, m = max p q → KeepsOthers W (W.setCell ⟨w.heap.size + 1, i, none⟩ (.int .i64 m)) ∧ Below w.heap.size W (W.setCell ⟨w.heap.size + 1, i, none⟩ (.int .i64 m)) ∧
          (((W.setCell ⟨w.heap.size + 1, i, none⟩ (.int .i64 m)).heap[w.heap.size]? = some (.cells vz 25 (0, 0)) ∧ (W.setCell ⟨w.heap.size + 1, i, none⟩ (.int .i64 m)).heap[w.heap.size + 1]? = some (.cells (ivs (upd V U (pre ++ [⟨i, hi⟩]))) 25 (0, 0)) ∧ MarksOk (w.heap.size + 1 + 1) (W.setCell ⟨w.heap.size + 1, i, none⟩ (.int .i64 m)) Ds ∧ (∀ D ∈ Ds, D < wr.heap.size)) ∧
            Below w.heap.size w (W.setCell ⟨w.heap.size + 1, i, none⟩ (.int .i64 m)))) := Lib.hid (by
        rintro m rfl
        obtain ⟨ho1, hr1, hm1, hd1, hB⟩ := HO.out
        refine ⟨KeepsOthers.setCell _ _ _, (Below.refl _ W).setCell (p := ⟨w.heap.size + 1, i, none⟩) (Nat.le_succ _) _, ⟨(Below.heap_setCell W _ _ _ (by simp)).trans hr1, ?_, hm1.set (by simp) _, hd1⟩, hB.setCell (p := ⟨w.heap.size + 1, i, none⟩) (Nat.le_succ _) _⟩
        rw [HN.out]
        unfold upd1
        rw [HPQ.out.1, HPQ.out.2, ← ivs_set]
        exact heap_setCell_same _ _ _ _ _ _ ho1)
      gi_wp2
      · exact fin.out _ (by omega)
      · exact fin.out _ (by omega)
    case done =>
      rintro D ys W hD rfl ⟨⟨hr1, ho1, hm1, hd1⟩, hB⟩ hK
      rw [← HU.out] at ho1
      have hDs : MarksOk (w.heap.size + 1 + 1) W (D :: Ds) := by
        refine ⟨fun E hE => ?_, ?_⟩
        · rcases List.mem_cons.1 hE with rfl | hE
          · exact ⟨by omega, hK⟩
          · exact hm1.1 E hE
        · rw [List.nodup_cons]
          exact ⟨fun h => by have := hd1 D h; omega, hm1.2⟩
      have HA := Lib.hid (And.intro hr1 (And.intro ho1 (And.intro hB hDs)))
      clear hr1 ho1 hB hDs hm1 hd1 hK hbox hbw hmk hBr hBo HU
      gi_wp2
      refine ⟨⟨k + 1, D :: Ds, _, _, _, _, _, _, _, _, _, _, _, _, _, _, _, _, _, _, rfl, by omega, HA.out.1, HA.out.2.1, HA.out.2.2.1, HA.out.2.2.2⟩, ?_⟩
      simp [intOf]; omega
    case stop =>
      rintro D c' pre W _ _ h _
      exact h.elim
  · obtain rfl : k = len := by omega
    have hT : Vs.take k = Vs := List.take_of_length_le (by rw [← HL.out]; exact Nat.le_refl _)
    dsimp only at hBo
    rw [hT] at hBo
    clear hT
    have hM := mgl_ok hok
    generalize hMe : mgl Vs = M at hM hBo
    have HMe := Lib.hid hMe
    clear hMe
    have hvzs : vz.size = (ivs M).size := by rw [ivs_size, hM.len]; rfl
    gi_wp2_with (first
      | (refine wpListIn_load_row rfl 25 (.tmp 3) rfl (w.heap.size + 1) rfl 25 (ivs M) (0, 0) _ hBo Try.underlying25 rfl (vec_info hM.len) ?_)
      | (refine wpListIn_store_row rfl 25 (.tmp 2) (.tmp 26) rfl w.heap.size 25 vz (ivs M) rfl rfl hBr (vec_info hM.len) hvzs (ivs_one M) ?_))
    refine leaves_marks Ds _ ⟨fun D hD => ⟨(hmk.1 D hD).1, ?_⟩, hmk.2⟩ (fun W' hb hk' => ?_)
    · rw [setRow_other _ _ _ _ (by have := (hmk.1 D hD).1; omega)]; exact (hmk.1 D hD).2
    · have hne : w.heap.size ∉ Ds := fun h => by have := (hmk.1 _ h).1; omega
      have hfin : W'.heap[w.heap.size]? = some (.cells (ivs M) 25 (0, 0)) := by rw [hk' _ hne]; exact setRow_heap _ _ _ _ _ _ hBr
      refine ⟨.agg (ivs M), results_cell_row (p := 2) rfl _ W' w.heap.size _ _ _ _ rfl hfin Try.underlying25 rfl (vec_info hM.len), by rw [HMe.out], ?_⟩
      exact (hbel.trans (below_setRow (Nat.le_refl _) _)).trans (hb.mono (by omega))

theorem Merge_any (A : Option Addr) (c : Nat) (Vs : List (List Int)) (w : World) (hr : RowV w A (Vs.flatMap ivl)) (hok : ∀ V ∈ Vs, VecOk V) (hm : Vs.length ≤ 1099511627776) :
    Calls Try.prog 13 #[.slice A Vs.length c] w fun e W' => e = .returned (.agg (ivs (mgl Vs))) ∧ Below w.heap.size w W' :=
  callsIn_wide.1 (Merge_in A c Vs w hr hok hm)

end Go.Proofs.Ytilnkfcggfaheaa
