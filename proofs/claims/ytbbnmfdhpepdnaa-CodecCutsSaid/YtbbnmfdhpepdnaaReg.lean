/-
  A region that draws its order: each operation shown once, under what its forerunners have left; no order is walked.
-/
import Derived.RangeFuncNested
import Derived.WalkKit
import Derived.Deep.RegionWith
import Derived.Great.BuildSlice
import Derived.Deep.MidRow
namespace Go.Proofs.Ytbbnmfdhpepdnaa
open Go.RowKit

/-- the frame when each operation k of the list has left x k -/
def fillL (x : Nat → Value) : List Oper → Nat → Act → Act
  | [], _, a => a
  | o :: l, k, a => fillL x l (k + 1) (a.put o.dst (x k))

def updN (x : Nat → Value) (i : Nat) (v : Value) : Nat → Value := fun j => if j = i then v else x j

theorem fillL_congr {x y : Nat → Value} : ∀ (l : List Oper) (k : Nat) (a : Act), (∀ j, k ≤ j → x j = y j) → fillL x l k a = fillL y l k a
  | [], _, _, _ => rfl
  | o :: l, k, a, h => by
    unfold fillL
    rw [h k (Nat.le_refl _)]
    exact fillL_congr l (k + 1) _ (fun j hj => h j (by omega))

theorem put_put (a : Act) (d : Option Tmp) (u v : Value) : (a.put d u).put d v = a.put d v := by
  cases d with
  | none => rfl
  | some d => simp [Act.put]

theorem fillL_put_other (x : Nat → Value) : ∀ (l : List Oper) (k : Nat) (a : Act) (d : Option Tmp) (v : Value), (∀ o ∈ l, ∀ t, d = some t → o.dst ≠ some t) →
    (fillL x l k a).put d v = fillL x l k (a.put d v)
  | [], _, _, _, _, _ => rfl
  | o :: l, k, a, d, v, h => by
    unfold fillL
    rw [fillL_put_other x l (k + 1) _ d v (fun o' ho' => h o' (List.mem_cons_of_mem _ ho'))]
    rw [Act.put_comm a (x k) v (fun t ht hd => h o List.mem_cons_self t hd ht)]

/-- no two write one slot -/
def dstsApart : List Oper → Bool
  | [] => true
  | o :: l => (match o.dst with | none => true | some d => l.all (fun o' => o'.dst != some d)) && dstsApart l

theorem fillL_put (x : Nat → Value) (v : Value) : ∀ (l : List Oper) (k : Nat) (a : Act) (i : Nat) (o : Oper), dstsApart l = true → l[i]? = some o →
    (fillL x l k a).put o.dst v = fillL (updN x (k + i) v) l k a
  | [], _, _, _, _, _, h => by simp at h
  | o' :: l, k, a, 0, o, hd, h => by
    obtain rfl : o' = o := by simpa using h
    unfold fillL
    rw [fillL_put_other x l (k + 1) _ o'.dst v ?_, put_put]
    · show fillL x l (k + 1) (a.put o'.dst v) = fillL _ l (k + 1) (a.put o'.dst (updN x (k + 0) v k))
      rw [show updN x (k + 0) v k = v by simp [updN]]
      exact fillL_congr l (k + 1) _ (fun j hj => by simp [updN]; omega)
    · intro o'' ho'' t ht he
      unfold dstsApart at hd
      rw [ht] at hd
      simp only [Bool.and_eq_true, List.all_eq_true] at hd
      have := hd.1 o'' ho''
      rw [he] at this
      simp at this
  | o' :: l, k, a, i + 1, o, hd, h => by
    unfold dstsApart at hd
    simp only [Bool.and_eq_true] at hd
    have h' : l[i]? = some o := by simpa using h
    show (fillL x l (k + 1) (a.put o'.dst (x k))).put o.dst v = fillL _ l (k + 1) (a.put o'.dst (updN x (k + (i + 1)) v k))
    rw [fillL_put x v l (k + 1) _ i o hd.2 h', show updN x (k + (i + 1)) v k = x k by simp [updN]]
    rw [show k + 1 + i = k + (i + 1) by omega]

theorem fillL_start (a : Act) : ∀ (l : List Oper) (k : Nat), ∃ x, fillL x l k a = a
  | [], _ => ⟨fun _ => undef, rfl⟩
  | o :: l, k => by
    obtain ⟨x, hx⟩ := fillL_start a l (k + 1)
    refine ⟨updN x k (match o.dst with | none => undef | some d => a.tmps.getD d undef), ?_⟩
    show fillL _ l (k + 1) (a.put o.dst (updN x k _ k)) = a
    rw [show ∀ v, updN x k v k = v from fun v => by simp [updN]]
    have : a.put o.dst (match o.dst with | none => undef | some d => a.tmps.getD d undef) = a := by
      cases hd : o.dst with
      | none => rfl
      | some d =>
        show (⟨a.tmps.setIfInBounds d (a.tmps.getD d undef), a.defers⟩ : Act) = a
        have : a.tmps.setIfInBounds d (a.tmps.getD d undef) = a.tmps := by
          apply Array.ext_getElem?
          intro j
          rw [Array.getElem?_setIfInBounds]
          split
          · rename_i e; subst e
            split
            · rename_i h; simp [h]
            · rename_i h; rw [Array.getElem?_eq_none (by omega)]
          · rfl
        rw [this]
    rw [this]
    exact (fillL_congr l (k + 1) a (fun j hj => by unfold updN; rw [if_neg (by omega)])).trans hx

def unlisted (n : Nat) (listed : Array Bool) : List Nat := (List.range n).filter fun i => !listed.getD i true

theorem unlisted_set {n : Nat} {listed : Array Bool} {i : Nat} (hn : i < n) (h : listed.getD i true = false) : (unlisted n (listed.setIfInBounds i true)).length < (unlisted n listed).length := by
  have hi : i < listed.size := by
    rcases Nat.lt_or_ge i listed.size with h' | h'
    · exact h'
    · simp [Array.getElem?_eq_none h'] at h
  have hm : i ∈ unlisted n listed := by simp only [unlisted, List.mem_filter, List.mem_range]; exact ⟨hn, by rw [h]; rfl⟩
  have he : unlisted n (listed.setIfInBounds i true) = (unlisted n listed).erase i := by
    unfold unlisted
    rw [(List.nodup_range.sublist List.filter_sublist).erase_eq_filter]
    rw [List.filter_filter]
    congr 1
    funext j
    rw [Array.getD_eq_getD_getElem?, Array.getD_eq_getD_getElem?, Array.getElem?_setIfInBounds]
    by_cases e : i = j
    · subst e; simp [hi]
    · rw [if_neg e]; simp [Ne.symm e]
  rw [he, List.length_erase_of_mem hm]
  have := List.length_pos_of_mem hm
  omega

/-- forerunners come ahead in the text -/
def lexOk (md : Region.Mode) : List Oper → Nat → Bool
  | [], _ => true
  | o :: l, k => o.after.all (fun e => !Region.binds md e || decide (e.on < k)) && lexOk md l (k + 1)
theorem lexOk_at {md : Region.Mode} : ∀ (l : List Oper) (k i : Nat) (o : Oper), lexOk md l k = true → l[i]? = some o → ∀ e ∈ o.after, Region.binds md e = true → e.on < k + i
  | [], _, _, _, _, h => by simp at h
  | o' :: l, k, 0, o, hb, h => by
    obtain rfl : o' = o := by simpa using h
    unfold lexOk at hb
    simp only [Bool.and_eq_true, Array.all_eq_true_iff_forall_mem] at hb
    intro e he hbi
    have := hb.1 e he
    rw [hbi] at this
    simpa using this
  | o' :: l, k, i + 1, o, hb, h => by
    unfold lexOk at hb
    simp only [Bool.and_eq_true] at hb
    intro e he hbi
    have := lexOk_at l (k + 1) i o hb.2 (by simpa using h) e he hbi
    omega

section
variable {P : Program} {Q : Exit → Act → World → Prop} {C : World → Prop} {G : World → World → Prop} {Φ : Nat → Value → World → Prop} {a₀ : Act}

/-- what is to be shown of operation k -/
def RelOp (P : Program) (l : List Oper) (a₀ : Act) (Q : Exit → Act → World → Prop) (C : World → Prop) (G : World → World → Prop) (Φ : Nat → Value → World → Prop) (k : Nat) (o : Oper) : Prop :=
  ∀ (x : Nat → Value) (w : World), C w → (∀ e ∈ o.after.toList, Region.binds .any e = true → Φ e.on (x e.on) w) →
    ∀ K : Act → World → Prop, (∀ v w', G w w' → C w' → Φ k v w' → K ((fillL x l 0 a₀).put o.dst v) w') →
      if Region.wanted o (yielded l.toArray (fillL x l 0 a₀).tmps) = true then Oper.wp P o (fillL x l 0 a₀) w K Q else K ((fillL x l 0 a₀).put o.dst undef) w

def AllRel (P : Program) (l : List Oper) (a₀ : Act) (Q : Exit → Act → World → Prop) (C : World → Prop) (G : World → World → Prop) (Φ : Nat → Value → World → Prop) : List Oper → Nat → Prop
  | [], _ => True
  | o :: r, k => RelOp P l a₀ Q C G Φ k o ∧ AllRel P l a₀ Q C G Φ r (k + 1)
theorem AllRel.at {l : List Oper} : ∀ (r : List Oper) (k i : Nat) (o : Oper), AllRel P l a₀ Q C G Φ r k → r[i]? = some o → RelOp P l a₀ Q C G Φ (k + i) o
  | [], _, _, _, _, h => by simp at h
  | o' :: r, k, 0, o, hb, h => by
    obtain rfl : o' = o := by simpa using h
    exact hb.1
  | o' :: r, k, i + 1, o, hb, h => by
    have := AllRel.at r (k + 1) i o hb.2 (by simpa using h)
    rwa [show k + 1 + i = k + (i + 1) by omega] at this

theorem wpAny_rel {l : List Oper} (hd : dstsApart l = true) (hx : lexOk .any l 0 = true) (hst : ∀ i v w w', Φ i v w → G w w' → Φ i v w')
    (hall : AllRel P l a₀ Q C G Φ l 0) (hfin : ∀ x w, C w → (∀ i, i < l.length → Φ i (x i) w) → Q .normal (fillL x l 0 a₀) w) :
    ∀ (fuel : Nat) (listed : Array Bool) (x : Nat → Value) (w : World), listed.size = l.length → C w → (∀ i, i < l.length → listed.getD i false = true → Φ i (x i) w) → (unlisted l.length listed).length ≤ fuel →
      wpAny P .any l.toArray Q fuel listed (fillL x l 0 a₀) w := by
  have done : ∀ (listed : Array Bool) (x : Nat → Value) (w : World), listed.size = l.length → C w → (∀ i, i < l.length → listed.getD i false = true → Φ i (x i) w) → Region.ready .any l.toArray listed = [] → Q .normal (fillL x l 0 a₀) w := by
    intro listed x w hs hC hΦ hr
    have hall' : ∀ n i, i < n → i < l.length → listed.getD i false = true := by
      intro n
      induction n with
      | zero => intro i hi; omega
      | succ n ih =>
        intro i hi hil
        rcases Nat.lt_or_ge i n with h | h
        · exact ih i h hil
        · obtain rfl : i = n := by omega
          cases hc : listed.getD i false with
          | true => rfl
          | false =>
            exfalso
            have hir : i ∈ Region.ready .any l.toArray listed := by
              refine mem_ready.2 ⟨?_, l[i], by simp [hil], ?_⟩
              · have : i < listed.size := by omega
                simp [this] at hc ⊢
                exact hc
              · intro e he hb
                have hlt := lexOk_at l 0 i l[i] hx (by simp [hil]) e he hb
                exact ih e.on (by omega) (by omega)
            rw [hr] at hir
            cases hir
    exact hfin x w hC (fun i hi => hΦ i hi (hall' (i + 1) i (by omega) hi))
  intro fuel
  induction fuel with
  | zero =>
    intro listed x w hs hC hΦ hf
    have h0 : unlisted l.length listed = [] := List.length_eq_zero_iff.1 (by omega)
    have hr : Region.ready .any l.toArray listed = [] := by
      rw [List.eq_nil_iff_forall_not_mem]
      intro i hi
      obtain ⟨h1, o, ho, _⟩ := mem_ready.1 hi
      have hil : i < l.length := by
        rcases Nat.lt_or_ge i l.length with h | h
        · exact h
        · rw [Array.getElem?_eq_none (by simpa using h)] at ho; cases ho
      have : i ∈ unlisted l.length listed := by simp only [unlisted, List.mem_filter, List.mem_range]; exact ⟨hil, by rw [h1]; rfl⟩
      rw [h0] at this
      cases this
    exact ⟨hr, done listed x w hs hC hΦ hr⟩
  | succ fuel ih =>
    intro listed x w hs hC hΦ hf
    refine ⟨fun hr => done listed x w hs hC hΦ hr, fun i hi => ?_⟩
    obtain ⟨h1, o, ho, hdep⟩ := mem_ready.1 hi
    have ho' : l[i]? = some o := by simpa using ho
    have hil : i < l.length := by
      rcases Nat.lt_or_ge i l.length with h | h
      · exact h
      · rw [List.getElem?_eq_none h] at ho'; cases ho'
    refine wpOp_step ho (fun K' hK => ?_)
    have hR := AllRel.at l 0 i o hall ho'
    rw [Nat.zero_add] at hR
    refine hR x w hC (fun e he hb => ?_) K' (fun v w' hG hC' hv => hK _ _ ?_)
    · have hlt := lexOk_at l 0 i o hx ho' e (by simpa using he) hb
      exact hΦ e.on (by omega) (hdep e (by simpa using he) hb)
    · rw [fillL_put x v l 0 a₀ i o hd ho', Nat.zero_add]
      refine ih _ _ _ (by simpa using hs) hC' (fun j hj hlj => ?_) ?_
      · by_cases e : j = i
        · subst e; simpa [updN] using hv
        · have : updN x i v j = x j := by simp [updN, e]
          rw [this]
          refine hst _ _ _ _ (hΦ j hj ?_) hG
          rw [Array.getD_eq_getD_getElem?, Array.getElem?_setIfInBounds, if_neg (Ne.symm e)] at hlj
          rw [Array.getD_eq_getD_getElem?]
          exact hlj
      · have := unlisted_set (n := l.length) hil h1
        omega

/-- what the forerunners have left -/
def DepAll (Φ : Nat → Value → World → Prop) (x : Nat → Value) (w : World) : List Edge → Prop
  | [] => True
  | e :: r => (if Region.binds .any e = true then Φ e.on (x e.on) w else True) ∧ DepAll Φ x w r
theorem DepAll.of {x : Nat → Value} {w : World} : ∀ {r : List Edge}, (∀ e ∈ r, Region.binds .any e = true → Φ e.on (x e.on) w) → DepAll Φ x w r
  | [], _ => trivial
  | e :: r, h => ⟨by split; exact h e List.mem_cons_self ‹_›; trivial, DepAll.of (fun e' he => h e' (List.mem_cons_of_mem _ he))⟩

theorem DepAll.get {x : Nat → Value} {w : World} : ∀ {r : List Edge}, DepAll Φ x w r → ∀ g : Nat, r.any (fun e => Region.binds .any e && e.on == g) = true → Φ g (x g) w
  | [], _, _, hc => by simp at hc
  | e :: r, h, g, hc => by
    rw [List.any_cons, Bool.or_eq_true, Bool.and_eq_true] at hc
    rcases hc with ⟨h1, h2⟩ | h1
    · have := h.1
      rw [if_pos h1] at this
      have e' : e.on = g := by simpa using h2
      rwa [e'] at this
    · exact DepAll.get h.2 g h1

/-- the same, with the frames written out -/
def StepOp (P : Program) (l : List Oper) (T : (Nat → Value) → Act) (Q : Exit → Act → World → Prop) (C : World → Prop) (G : World → World → Prop) (Φ : Nat → Value → World → Prop) (k : Nat) (o : Oper) : Prop :=
  ∀ (x : Nat → Value) (w : World), C w → DepAll Φ x w o.after.toList →
    ∀ K : Act → World → Prop, (∀ v w', G w w' → C w' → Φ k v w' → K ((T x).put o.dst v) w') →
      if Region.wanted o (yielded l.toArray (T x).tmps) = true then Oper.wp P o (T x) w K Q else K ((T x).put o.dst undef) w
def StepAll (P : Program) (l : List Oper) (T : (Nat → Value) → Act) (Q : Exit → Act → World → Prop) (C : World → Prop) (G : World → World → Prop) (Φ : Nat → Value → World → Prop) : List Oper → Nat → Prop
  | [], _ => True
  | o :: r, k => StepOp P l T Q C G Φ k o ∧ StepAll P l T Q C G Φ r (k + 1)
variable {T : (Nat → Value) → Act}
theorem StepAll.nil {l : List Oper} {k : Nat} : StepAll P l T Q C G Φ [] k := trivial
theorem StepAll.cons {l r : List Oper} {o : Oper} {k : Nat} (h : StepOp P l T Q C G Φ k o) (hr : StepAll P l T Q C G Φ r (k + 1)) : StepAll P l T Q C G Φ (o :: r) k := ⟨h, hr⟩
theorem StepAll.all {l : List Oper} (hT : ∀ x, fillL x l 0 a₀ = T x) : ∀ (r : List Oper) (k : Nat), StepAll P l T Q C G Φ r k → AllRel P l a₀ Q C G Φ r k
  | [], _, _ => trivial
  | o :: r, k, h => by
    refine ⟨fun x w hC hd K hK => ?_, StepAll.all hT r (k + 1) h.2⟩
    have := h.1 x w hC (DepAll.of hd) K (fun v w' h1 h2 h3 => by rw [← hT x]; exact hK v w' h1 h2 h3)
    rwa [← hT x] at this
/-- an operation without a guard -/
theorem StepOp.plain {l : List Oper} {k : Nat} {o : Oper} (hg : o.guard = none)
    (h : ∀ (x : Nat → Value) (w : World), C w → DepAll Φ x w o.after.toList → ∀ K : Act → World → Prop, (∀ v w', G w w' → C w' → Φ k v w' → K ((T x).put o.dst v) w') → Oper.wp P o (T x) w K Q) : StepOp P l T Q C G Φ k o := by
  intro x w hC hd K hK
  rw [if_pos (by unfold Region.wanted; rw [hg])]
  exact h x w hC hd K hK
/-- an operation whose guard says yes -/
theorem StepOp.yes {l : List Oper} {k : Nat} {o : Oper} (g : Nat) (b : Bool) (dg : Tmp) (hg : o.guard = some (g, b)) (hl : (l[g]?).bind (·.dst) = some dg)
    (hb : ∀ (x : Nat → Value) (w : World), C w → DepAll Φ x w o.after.toList → (T x).tmps[dg]? = some (.bool b))
    (h : ∀ (x : Nat → Value) (w : World), C w → DepAll Φ x w o.after.toList → ∀ K : Act → World → Prop, (∀ v w', G w w' → C w' → Φ k v w' → K ((T x).put o.dst v) w') → Oper.wp P o (T x) w K Q) : StepOp P l T Q C G Φ k o := by
  intro x w hC hd K hK
  have hw : Region.wanted o (yielded l.toArray (T x).tmps) = true := by
    unfold Region.wanted yielded
    rw [hg]
    simp only [List.getElem?_toArray, hl, Option.bind_some, hb x w hC hd]
    simp
  rw [if_pos hw]
  exact h x w hC hd K hK
/-- an operation whose guard says no -/
theorem StepOp.no {l : List Oper} {k : Nat} {o : Oper} (hG : ∀ w, G w w) (g : Nat) (b : Bool) (dg : Tmp) (hg : o.guard = some (g, b)) (hl : (l[g]?).bind (·.dst) = some dg)
    (hb : ∀ (x : Nat → Value) (w : World), C w → DepAll Φ x w o.after.toList → (T x).tmps[dg]? = some (.bool !b) ∨ (T x).tmps[dg]? = some undef)
    (h : ∀ w, C w → Φ k undef w) : StepOp P l T Q C G Φ k o := by
  intro x w hC hd K hK
  have hw : Region.wanted o (yielded l.toArray (T x).tmps) = false := by
    unfold Region.wanted yielded
    rw [hg]
    simp only [List.getElem?_toArray, hl, Option.bind_some]
    rcases hb x w hC hd with h | h <;> rw [h]
    · cases b <;> simp
    · simp [undef]
  rw [hw]
  exact hK _ _ (hG w) hC (h w hC)

/-- an operation that yields a value and leaves the world alone -/
theorem wp_value {o : Oper} {a : Act} {w : World} {K : Act → World → Prop} {v : Value} (h : (execOp a.eval o).run P w = .ok (.value v) w) (hK : K (a.put o.dst v) w) : Oper.wp P o a w K Q := by
  unfold Oper.wp
  rw [h]
  exact hK
theorem wp_value' {o : Oper} {a : Act} {w w' : World} {K : Act → World → Prop} {v : Value} (h : (execOp a.eval o).run P w = .ok (.value v) w') (hK : K (a.put o.dst v) w') : Oper.wp P o a w K Q := by
  unfold Oper.wp
  rw [h]
  exact hK
/-- a call of a function whose contract says what it hands back -/
theorem wp_called {o : Oper} {a : Act} {w : World} {K : Act → World → Prop} {f : Nat} {args : Array Value} {R : Ending → World → Prop} (h : (execOp a.eval o).run P w = .ok (.enter f args) w) (hc : Calls P f args w R)
    (hR : ∀ e w', R e w' → ∃ v, e = .returned v ∧ K (a.put o.dst v) w') : Oper.wp P o a w K Q := by
  unfold Oper.wp
  rw [h]
  refine hc.mono fun e w' he => ?_
  obtain ⟨v, rfl, hk⟩ := hR e w' he
  exact hk

theorem exec_build {ρ : Operand → Value} {o : Oper} {w w' : World} {v : Value} (T : TypeId) (n : Nat) (parts : Array (Nat × Operand)) (ho : o.op = .buildSlice T n parts) (ps : List (Nat × Value))
    (hp : parts.toList.map (fun p => (p.1, ρ p.2)) = ps) (h : (Instr.buildSlice T n ps.toArray).run P w = .ok v w') : (execOp ρ o).run P w = .ok (.value v) w' := by
  have e : parts.map (fun (i, x) => (i, ρ x)) = ps.toArray := by
    rw [← hp]
    apply Array.toList_inj.1
    rw [Array.toList_map]
  unfold execOp
  rw [ho]
  simp only [e, Sem.run_bind, h, Result.andThen_ok, Sem.run_pure]

/-- the law -/
theorem wp_region_rel {l : List Oper} {id : Nat} {w : World} (hm : P.follows .mixedOrders = true) (C : World → Prop) (G : World → World → Prop) (Φ : Nat → Value → World → Prop) (T : (Nat → Value) → Act)
    (hT : ∀ x, fillL x l 0 a₀ = T x)
    (hd : dstsApart l = true) (hx : lexOk .any l 0 = true) (hst : ∀ i v w w', Φ i v w → G w w' → Φ i v w') (hC : C w.drew)
    (hall : StepAll P l T Q C G Φ l 0) (hfin : ∀ x w, C w → (∀ i, i < l.length → Φ i (x i) w) → Q .normal (T x) w) : (Code.region id l.toArray true).wp P Q a₀ w := by
  refine wp_region_any hm ?_
  obtain ⟨x, hx'⟩ := fillL_start a₀ l 0
  have := wpAny_rel (Q := Q) hd hx hst (StepAll.all hT l 0 hall) (fun x w h1 h2 => by rw [hT x]; exact hfin x w h1 h2) l.toArray.size (Array.replicate l.toArray.size false) x w.drew (by simp) hC (fun i hi h => by
    rw [Array.getD_eq_getD_getElem?, Array.getElem?_replicate] at h
    split at h <;> simp at h) (by
      refine Nat.le_trans (List.length_filter_le _ _) ?_
      simp)
  rw [hx'] at this
  exact this
end

end Go.Proofs.Ytbbnmfdhpepdnaa
