/-
  The law of XReg2 for a region whose last operation comes behind all others: it may turn what the others rest on.
-/
import Derived.Test.YtbbnmfdhpepdnaaReg2
namespace Go.Proofs.Ytbbnmfdhpepdnaa
open Go.RowKit

section
variable {P : Program} {Q : Exit → Act → World → Prop} {C : World → Prop} {G : World → World → Prop} {Φ : Nat → Value → World → Prop} {a₀ : Act} {T : (Nat → Value) → Act} {x₀ : Nat → Value}

/-- each operation ahead of the last one is waited for by one behind it -/
def waitedFor : List Oper → Nat → Bool
  | [], _ => true
  | [_], _ => true
  | _ :: l, k => (l.any fun o => o.after.toList.any fun e => Region.binds .any e && e.on == k) && waitedFor l (k + 1)
theorem waitedFor_at : ∀ (l : List Oper) (k i : Nat), waitedFor l k = true → i + 1 < l.length → ∃ j oj, i < j ∧ l[j]? = some oj ∧ ∃ e ∈ oj.after.toList, Region.binds .any e = true ∧ e.on = k + i
  | [], _, _, _, h => by simp at h
  | [_], _, _, _, h => by simp at h
  | o :: o' :: l, k, 0, hw, _ => by
    unfold waitedFor at hw
    rw [Bool.and_eq_true, List.any_eq_true] at hw
    obtain ⟨⟨oj, hm, ha⟩, _⟩ := hw
    rw [List.any_eq_true] at ha
    obtain ⟨e, he, hb⟩ := ha
    rw [Bool.and_eq_true] at hb
    obtain ⟨j, hj, rfl⟩ := List.mem_iff_getElem.1 hm
    exact ⟨j + 1, _, by omega, by rw [List.getElem?_cons_succ, List.getElem?_eq_getElem hj], e, he, hb.1, by simpa using hb.2⟩
  | o :: o' :: l, k, i + 1, hw, hi => by
    unfold waitedFor at hw
    rw [Bool.and_eq_true] at hw
    obtain ⟨j, oj, hij, hj, e, he, hb, hon⟩ := waitedFor_at (o' :: l) (k + 1) i hw.2 (by simpa using hi)
    exact ⟨j + 1, oj, by omega, by rw [List.getElem?_cons_succ]; exact hj, e, he, hb, by omega⟩

theorem wpAny_rel3 {L : List Oper} {n : Nat} {last : Oper} (hn : L.length = n + 1) (hlast : L[n]? = some last) (hT : ∀ x, fillL x L 0 a₀ = T x) (hd : dstsApart L = true) (hx : lexOk .any L 0 = true) (hw : waitedFor L 0 = true)
    (hst : ∀ i v w w', Φ i v w → G w w' → Φ i v w')
    (hall : StepAll2 P L x₀ T Q C G Φ (L.take n) 0) (hfin : ∀ x w, C w → (∀ i, i < n → Φ i (x i) w) → x n = x₀ n → ∀ K : Act → World → Prop, (∀ v w', Q .normal ((T x).put last.dst v) w' → K ((T x).put last.dst v) w') →
      if Region.wanted last (yielded L.toArray (T x).tmps) = true then Oper.wp P last (T x) w K Q else K ((T x).put last.dst undef) w) :
    ∀ (fuel : Nat) (listed : Array Bool) (x : Nat → Value) (w : World), listed.size = L.length → C w → (∀ i, i < n → listed.getD i false = true → Φ i (x i) w) →
      (∀ i, i < L.length → listed.getD i false = false → x i = x₀ i) → (∀ j oj, L[j]? = some oj → listed.getD j false = true → ∀ e ∈ oj.after.toList, Region.binds .any e = true → listed.getD e.on false = true) →
      listed.getD n false = false → (unlisted L.length listed).length ≤ fuel → wpAny P .any L.toArray Q fuel listed (T x) w := by
  -- something is always ready while the last one is to come
  have busy : ∀ (listed : Array Bool), listed.size = L.length → listed.getD n false = false → Region.ready .any L.toArray listed ≠ [] := by
    intro listed hs hno hr
    have hall' : ∀ m i, i < m → i < L.length → listed.getD i false = true := by
      intro m
      induction m with
      | zero => intro i hi; omega
      | succ m ih =>
        intro i hi hil
        rcases Nat.lt_or_ge i m with h | h
        · exact ih i h hil
        · obtain rfl : i = m := by omega
          cases hc : listed.getD i false with
          | true => rfl
          | false =>
            exfalso
            have hir : i ∈ Region.ready .any L.toArray listed := by
              refine mem_ready.2 ⟨?_, L[i], by simp [hil], ?_⟩
              · have : i < listed.size := by omega
                simp [this] at hc ⊢
                exact hc
              · intro e he hb
                have hlt := lexOk_at L 0 i L[i] hx (by simp [hil]) e he hb
                exact ih e.on (by omega) (by omega)
            rw [hr] at hir
            cases hir
    have := hall' (n + 1) n (by omega) (by omega)
    rw [hno] at this
    cases this
  -- behind the last one nothing is ready
  have quiet : ∀ (fuel : Nat) (listed : Array Bool) (a : Act) (w : World), (∀ i, i < L.length → listed.getD i true = true) → Q .normal a w → wpAny P .any L.toArray Q fuel listed a w := by
    intro fuel listed a w hl hq
    have hr : Region.ready .any L.toArray listed = [] := by
      rw [List.eq_nil_iff_forall_not_mem]
      intro i hi
      obtain ⟨h1, o, ho, _⟩ := mem_ready.1 hi
      have hil : i < L.length := by
        rcases Nat.lt_or_ge i L.length with h | h
        · exact h
        · rw [Array.getElem?_eq_none (by simpa using h)] at ho; cases ho
      rw [hl i hil] at h1
      cases h1
    cases fuel with
    | zero => exact ⟨hr, hq⟩
    | succ fuel => exact ⟨fun _ => hq, fun i hi => by rw [hr] at hi; cases hi⟩
  intro fuel
  induction fuel with
  | zero =>
    intro listed x w hs hC hΦ _ _ hno hf
    exfalso
    have h0 : unlisted L.length listed = [] := List.length_eq_zero_iff.1 (by omega)
    have : n ∈ unlisted L.length listed := by
      simp only [unlisted, List.mem_filter, List.mem_range]
      refine ⟨by omega, ?_⟩
      have hns : n < listed.size := by omega
      simp [hns] at hno ⊢
      exact hno
    rw [h0] at this
    cases this
  | succ fuel ih =>
    intro listed x w hs hC hΦ hun hcl hno hf
    refine ⟨fun hr => absurd hr (busy listed hs hno), fun i hi => ?_⟩
    obtain ⟨h1, o, ho, hdep⟩ := mem_ready.1 hi
    have ho' : L[i]? = some o := by simpa using ho
    have hil : i < L.length := by
      rcases Nat.lt_or_ge i L.length with h | h
      · exact h
      · rw [List.getElem?_eq_none h] at ho'; cases ho'
    have hils : i < listed.size := by omega
    have hi0 : listed.getD i false = false := by
      simp [hils] at h1 ⊢
      exact h1
    by_cases hin : i = n
    · -- the last one
      subst hin
      rw [hlast] at ho'
      cases ho'
      have hothers : ∀ m j, j < i → i - j ≤ m → listed.getD j false = true := by
        intro m
        induction m with
        | zero => intro j hj hm; omega
        | succ m ihm =>
          intro j hj hm
          obtain ⟨q, oq, hjq, hq, e, he, hb, hon⟩ := waitedFor_at L 0 j hw (by omega)
          have hql : q < L.length := by
            rcases Nat.lt_or_ge q L.length with h | h
            · exact h
            · rw [List.getElem?_eq_none h] at hq; cases hq
          rw [Nat.zero_add] at hon
          by_cases hqi : q = i
          · subst hqi
            rw [hlast] at hq
            cases hq
            rw [← hon]
            exact hdep e (by simpa using he) hb
          · have := hcl q oq hq (ihm q (by omega) (by omega)) e he hb
            rwa [hon] at this
      refine wpOp_step ho (fun K' hK => ?_)
      refine hfin x w hC (fun j hj => hΦ j hj (hothers i j hj (by omega))) (hun i hil hi0) K' (fun v w' hq => hK _ _ (quiet _ _ _ _ (fun j hj => ?_) hq))
      rw [Array.getD_eq_getD_getElem?, Array.getElem?_setIfInBounds]
      by_cases e : i = j
      · subst e; simp [hils]
      · rw [if_neg e]
        have := hothers i j (by omega) (by omega)
        have hjs : j < listed.size := by omega
        simp [hjs] at this ⊢
        exact this
    · have hin' : i < n := by omega
      refine wpOp_step ho (fun K' hK => ?_)
      have hR := StepAll2.at (L.take n) 0 i o hall (by rw [List.getElem?_take, if_pos hin']; exact ho')
      rw [Nat.zero_add] at hR
      refine hR x w hC (DepAll.of fun e he hb => ?_) (fun j oj hj ha => ?_) K' (fun v w' hG hC' hv => hK _ _ ?_)
      · have hlt := lexOk_at L 0 i o hx ho' e (by simpa using he) hb
        exact hΦ e.on (by omega) (hdep e (by simpa using he) hb)
      · have hjl : j < L.length := by
          rcases Nat.lt_or_ge j L.length with h | h
          · exact h
          · rw [List.getElem?_eq_none h] at hj; cases hj
        refine hun j hjl ?_
        cases hc : listed.getD j false with
        | false => rfl
        | true =>
          rw [List.any_eq_true] at ha
          obtain ⟨e, he, hb⟩ := ha
          rw [Bool.and_eq_true] at hb
          have := hcl j oj hj hc e he hb.1
          rw [show e.on = i by simpa using hb.2, hi0] at this
          cases this
      · rw [← hT x, fillL_put x v L 0 a₀ i o hd ho', Nat.zero_add, hT]
        have hget : ∀ j, j ≠ i → (listed.setIfInBounds i true).getD j false = listed.getD j false := fun j e => by
          rw [Array.getD_eq_getD_getElem?, Array.getElem?_setIfInBounds, if_neg (Ne.symm e), Array.getD_eq_getD_getElem?]
        refine ih _ _ _ (by simpa using hs) hC' (fun j hj hlj => ?_) (fun j hj hlj => ?_) (fun j oj hj hlj e he hb => ?_) ?_ ?_
        · by_cases e : j = i
          · subst e; simpa [updN] using hv
          · rw [show updN x i v j = x j by simp [updN, e]]
            exact hst _ _ _ _ (hΦ j hj (by rw [← hget j e]; exact hlj)) hG
        · by_cases e : j = i
          · subst e
            rw [Array.getD_eq_getD_getElem?, Array.getElem?_setIfInBounds] at hlj
            simp [hils] at hlj
          · rw [show updN x i v j = x j by simp [updN, e]]
            exact hun j hj (by rw [← hget j e]; exact hlj)
        · by_cases e' : e.on = i
          · rw [e', Array.getD_eq_getD_getElem?, Array.getElem?_setIfInBounds]
            simp [hils]
          · rw [hget _ e']
            by_cases ej : j = i
            · subst ej
              rw [ho'] at hj
              cases hj
              exact hdep e (by simpa using he) hb
            · exact hcl j oj hj (by rw [← hget j ej]; exact hlj) e he hb
        · rw [hget n (fun e => hin e.symm)]; exact hno
        · have := unlisted_set (n := L.length) hil h1
          omega

/-- the law -/
theorem wp_region_rel3 {L : List Oper} {id : Nat} {w : World} (hm : P.follows .mixedOrders = true) (n : Nat) (last : Oper) (C : World → Prop) (G : World → World → Prop) (Φ : Nat → Value → World → Prop) (T : (Nat → Value) → Act) (x₀ : Nat → Value)
    (hT : ∀ x, fillL x L 0 a₀ = T x) (h0 : T x₀ = a₀) (hn : L.length = n + 1) (hlast : L[n]? = some last)
    (hd : dstsApart L = true) (hx : lexOk .any L 0 = true) (hw : waitedFor L 0 = true) (hst : ∀ i v w w', Φ i v w → G w w' → Φ i v w') (hC : C w.drew)
    (hall : StepAll2 P L x₀ T Q C G Φ (L.take n) 0) (hfin : ∀ x w, C w → (∀ i, i < n → Φ i (x i) w) → x n = x₀ n → ∀ K : Act → World → Prop, (∀ v w', Q .normal ((T x).put last.dst v) w' → K ((T x).put last.dst v) w') →
      if Region.wanted last (yielded L.toArray (T x).tmps) = true then Oper.wp P last (T x) w K Q else K ((T x).put last.dst undef) w) : (Code.region id L.toArray true).wp P Q a₀ w := by
  refine wp_region_any hm ?_
  have hno : ∀ i, (Array.replicate L.toArray.size false).getD i false = false := fun i => by
    rw [Array.getD_eq_getD_getElem?, Array.getElem?_replicate]
    split <;> rfl
  have := wpAny_rel3 (Q := Q) hn hlast hT hd hx hw hst hall hfin L.toArray.size (Array.replicate L.toArray.size false) x₀ w.drew (by simp) hC (fun i hi h => by rw [hno i] at h; cases h) (fun _ _ _ => rfl)
    (fun j oj hj h => by rw [hno j] at h; cases h) (hno n) (by
      refine Nat.le_trans (List.length_filter_le _ _) ?_
      simp)
  rw [h0] at this
  exact this
end

end Go.Proofs.Ytbbnmfdhpepdnaa
