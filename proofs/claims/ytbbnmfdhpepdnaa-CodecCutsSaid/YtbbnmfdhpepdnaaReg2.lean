/-
  The law of XReg, where an operation also knows of those that wait for it that they have not come yet.
-/
import Derived.Test.YtbbnmfdhpepdnaaReg
namespace Go.Proofs.Ytbbnmfdhpepdnaa
open Go.RowKit

section
variable {P : Program} {Q : Exit → Act → World → Prop} {C : World → Prop} {G : World → World → Prop} {Φ : Nat → Value → World → Prop} {a₀ : Act} {T : (Nat → Value) → Act} {x₀ : Nat → Value}

/-- what waits for k has not come -/
def Late (l : List Oper) (x₀ x : Nat → Value) (k : Nat) : Prop :=
  ∀ j oj, l[j]? = some oj → oj.after.toList.any (fun e => Region.binds .any e && e.on == k) = true → x j = x₀ j

def StepOp2 (P : Program) (l : List Oper) (x₀ : Nat → Value) (T : (Nat → Value) → Act) (Q : Exit → Act → World → Prop) (C : World → Prop) (G : World → World → Prop) (Φ : Nat → Value → World → Prop) (k : Nat) (o : Oper) : Prop :=
  ∀ (x : Nat → Value) (w : World), C w → DepAll Φ x w o.after.toList → Late l x₀ x k →
    ∀ K : Act → World → Prop, (∀ v w', G w w' → C w' → Φ k v w' → K ((T x).put o.dst v) w') →
      if Region.wanted o (yielded l.toArray (T x).tmps) = true then Oper.wp P o (T x) w K Q else K ((T x).put o.dst undef) w
def StepAll2 (P : Program) (l : List Oper) (x₀ : Nat → Value) (T : (Nat → Value) → Act) (Q : Exit → Act → World → Prop) (C : World → Prop) (G : World → World → Prop) (Φ : Nat → Value → World → Prop) : List Oper → Nat → Prop
  | [], _ => True
  | o :: r, k => StepOp2 P l x₀ T Q C G Φ k o ∧ StepAll2 P l x₀ T Q C G Φ r (k + 1)
theorem StepAll2.nil {l : List Oper} {k : Nat} : StepAll2 P l x₀ T Q C G Φ [] k := trivial
theorem StepAll2.cons {l r : List Oper} {o : Oper} {k : Nat} (h : StepOp2 P l x₀ T Q C G Φ k o) (hr : StepAll2 P l x₀ T Q C G Φ r (k + 1)) : StepAll2 P l x₀ T Q C G Φ (o :: r) k := ⟨h, hr⟩
theorem StepOp.late {l : List Oper} {k : Nat} {o : Oper} (h : StepOp P l T Q C G Φ k o) : StepOp2 P l x₀ T Q C G Φ k o := fun x w hC hd _ => h x w hC hd
theorem StepOp2.plain {l : List Oper} {k : Nat} {o : Oper} (hg : o.guard = none)
    (h : ∀ (x : Nat → Value) (w : World), C w → DepAll Φ x w o.after.toList → Late l x₀ x k → ∀ K : Act → World → Prop, (∀ v w', G w w' → C w' → Φ k v w' → K ((T x).put o.dst v) w') → Oper.wp P o (T x) w K Q) : StepOp2 P l x₀ T Q C G Φ k o := by
  intro x w hC hd hl K hK
  rw [if_pos (by unfold Region.wanted; rw [hg])]
  exact h x w hC hd hl K hK
theorem StepAll2.at {l : List Oper} : ∀ (r : List Oper) (k i : Nat) (o : Oper), StepAll2 P l x₀ T Q C G Φ r k → r[i]? = some o → StepOp2 P l x₀ T Q C G Φ (k + i) o
  | [], _, _, _, _, h => by simp at h
  | o' :: r, k, 0, o, hb, h => by
    obtain rfl : o' = o := by simpa using h
    exact hb.1
  | o' :: r, k, i + 1, o, hb, h => by
    have := StepAll2.at r (k + 1) i o hb.2 (by simpa using h)
    rwa [show k + 1 + i = k + (i + 1) by omega] at this

theorem wpAny_rel2 {l : List Oper} (hT : ∀ x, fillL x l 0 a₀ = T x) (hd : dstsApart l = true) (hx : lexOk .any l 0 = true) (hst : ∀ i v w w', Φ i v w → G w w' → Φ i v w')
    (hall : StepAll2 P l x₀ T Q C G Φ l 0) (hfin : ∀ x w, C w → (∀ i, i < l.length → Φ i (x i) w) → Q .normal (T x) w) :
    ∀ (fuel : Nat) (listed : Array Bool) (x : Nat → Value) (w : World), listed.size = l.length → C w → (∀ i, i < l.length → listed.getD i false = true → Φ i (x i) w) →
      (∀ i, i < l.length → listed.getD i false = false → x i = x₀ i) → (∀ j oj, l[j]? = some oj → listed.getD j false = true → ∀ e ∈ oj.after.toList, Region.binds .any e = true → listed.getD e.on false = true) →
      (unlisted l.length listed).length ≤ fuel → wpAny P .any l.toArray Q fuel listed (T x) w := by
  have done : ∀ (listed : Array Bool) (x : Nat → Value) (w : World), listed.size = l.length → C w → (∀ i, i < l.length → listed.getD i false = true → Φ i (x i) w) → Region.ready .any l.toArray listed = [] → Q .normal (T x) w := by
    intro listed x w hs hC hΦ hr
    have hall' : ∀ n i, i < n → i < l.length → listed.getD i false = true := by
      intro n
      induction n with
      | zero => intro i hi; omega
      | succ n ih =>
        intro i hi hil
        rcases Nat.lt_or_ge i n with h | h
        · exact ih i h hil
        · obtain rfl : i = n := by omega
          cases hc : listed.getD i false with
          | true => rfl
          | false =>
            exfalso
            have hir : i ∈ Region.ready .any l.toArray listed := by
              refine mem_ready.2 ⟨?_, l[i], by simp [hil], ?_⟩
              · have : i < listed.size := by omega
                simp [this] at hc ⊢
                exact hc
              · intro e he hb
                have hlt := lexOk_at l 0 i l[i] hx (by simp [hil]) e he hb
                exact ih e.on (by omega) (by omega)
            rw [hr] at hir
            cases hir
    exact hfin x w hC (fun i hi => hΦ i hi (hall' (i + 1) i (by omega) hi))
  intro fuel
  induction fuel with
  | zero =>
    intro listed x w hs hC hΦ _ _ hf
    have h0 : unlisted l.length listed = [] := List.length_eq_zero_iff.1 (by omega)
    have hr : Region.ready .any l.toArray listed = [] := by
      rw [List.eq_nil_iff_forall_not_mem]
      intro i hi
      obtain ⟨h1, o, ho, _⟩ := mem_ready.1 hi
      have hil : i < l.length := by
        rcases Nat.lt_or_ge i l.length with h | h
        · exact h
        · rw [Array.getElem?_eq_none (by simpa using h)] at ho; cases ho
      have : i ∈ unlisted l.length listed := by simp only [unlisted, List.mem_filter, List.mem_range]; exact ⟨hil, by rw [h1]; rfl⟩
      rw [h0] at this
      cases this
    exact ⟨hr, done listed x w hs hC hΦ hr⟩
  | succ fuel ih =>
    intro listed x w hs hC hΦ hun hcl hf
    refine ⟨fun hr => done listed x w hs hC hΦ hr, fun i hi => ?_⟩
    obtain ⟨h1, o, ho, hdep⟩ := mem_ready.1 hi
    have ho' : l[i]? = some o := by simpa using ho
    have hil : i < l.length := by
      rcases Nat.lt_or_ge i l.length with h | h
      · exact h
      · rw [List.getElem?_eq_none h] at ho'; cases ho'
    have hils : i < listed.size := by omega
    have hi0 : listed.getD i false = false := by
      simp [hils] at h1 ⊢
      exact h1
    refine wpOp_step ho (fun K' hK => ?_)
    have hR := StepAll2.at l 0 i o hall ho'
    rw [Nat.zero_add] at hR
    refine hR x w hC (DepAll.of fun e he hb => ?_) (fun j oj hj ha => ?_) K' (fun v w' hG hC' hv => hK _ _ ?_)
    · have hlt := lexOk_at l 0 i o hx ho' e (by simpa using he) hb
      exact hΦ e.on (by omega) (hdep e (by simpa using he) hb)
    · have hjl : j < l.length := by
        rcases Nat.lt_or_ge j l.length with h | h
        · exact h
        · rw [List.getElem?_eq_none h] at hj; cases hj
      refine hun j hjl ?_
      cases hc : listed.getD j false with
      | false => rfl
      | true =>
        rw [List.any_eq_true] at ha
        obtain ⟨e, he, hb⟩ := ha
        rw [Bool.and_eq_true] at hb
        have := hcl j oj hj hc e he hb.1
        rw [show e.on = i by simpa using hb.2, hi0] at this
        cases this
    · rw [← hT x, fillL_put x v l 0 a₀ i o hd ho', Nat.zero_add, hT]
      have hget : ∀ j, j ≠ i → (listed.setIfInBounds i true).getD j false = listed.getD j false := fun j e => by
        rw [Array.getD_eq_getD_getElem?, Array.getElem?_setIfInBounds, if_neg (Ne.symm e), Array.getD_eq_getD_getElem?]
      refine ih _ _ _ (by simpa using hs) hC' (fun j hj hlj => ?_) (fun j hj hlj => ?_) (fun j oj hj hlj e he hb => ?_) ?_
      · by_cases e : j = i
        · subst e; simpa [updN] using hv
        · rw [show updN x i v j = x j by simp [updN, e]]
          exact hst _ _ _ _ (hΦ j hj (by rw [← hget j e]; exact hlj)) hG
      · by_cases e : j = i
        · subst e
          rw [Array.getD_eq_getD_getElem?, Array.getElem?_setIfInBounds] at hlj
          simp [hils] at hlj
        · rw [show updN x i v j = x j by simp [updN, e]]
          exact hun j hj (by rw [← hget j e]; exact hlj)
      · by_cases e' : e.on = i
        · rw [e', Array.getD_eq_getD_getElem?, Array.getElem?_setIfInBounds]
          simp [hils]
        · rw [hget _ e']
          by_cases ej : j = i
          · subst ej
            rw [ho'] at hj
            cases hj
            exact hdep e (by simpa using he) hb
          · exact hcl j oj hj (by rw [← hget j ej]; exact hlj) e he hb
      · have := unlisted_set (n := l.length) hil h1
        omega

/-- the law -/
theorem wp_region_rel2 {l : List Oper} {id : Nat} {w : World} (hm : P.follows .mixedOrders = true) (C : World → Prop) (G : World → World → Prop) (Φ : Nat → Value → World → Prop) (T : (Nat → Value) → Act) (x₀ : Nat → Value)
    (hT : ∀ x, fillL x l 0 a₀ = T x) (h0 : T x₀ = a₀)
    (hd : dstsApart l = true) (hx : lexOk .any l 0 = true) (hst : ∀ i v w w', Φ i v w → G w w' → Φ i v w') (hC : C w.drew)
    (hall : StepAll2 P l x₀ T Q C G Φ l 0) (hfin : ∀ x w, C w → (∀ i, i < l.length → Φ i (x i) w) → Q .normal (T x) w) : (Code.region id l.toArray true).wp P Q a₀ w := by
  refine wp_region_any hm ?_
  have hno : ∀ i, (Array.replicate l.toArray.size false).getD i false = false := fun i => by
    rw [Array.getD_eq_getD_getElem?, Array.getElem?_replicate]
    split <;> rfl
  have := wpAny_rel2 (Q := Q) hT hd hx hst hall hfin l.toArray.size (Array.replicate l.toArray.size false) x₀ w.drew (by simp) hC (fun i hi h => by rw [hno i] at h; cases h) (fun _ _ _ => rfl)
    (fun j oj hj h => by rw [hno j] at h; cases h) (by
      refine Nat.le_trans (List.length_filter_le _ _) ?_
      simp)
  rw [h0] at this
  exact this
end

end Go.Proofs.Ytbbnmfdhpepdnaa
