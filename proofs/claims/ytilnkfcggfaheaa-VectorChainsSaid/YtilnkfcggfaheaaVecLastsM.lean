/-
  Each vector is covered by one of the last.
-/
import Derived.Test.YtilnkfcggfaheaaVecRLast
namespace Go.Proofs.Ytilnkfcggfaheaa

/-- the sum of the first n numbers -/
def sumTo (V : List Int) : Nat → Int
  | 0 => 0
  | n + 1 => sumTo V n + V[n]?.getD 0
theorem sumTo_le {U V : List Int} : ∀ n, (∀ i, i < n → V[i]?.getD 0 ≤ U[i]?.getD 0) → sumTo V n ≤ sumTo U n
  | 0, _ => Int.le_refl _
  | n + 1, h => by
    have := sumTo_le n (fun i hi => h i (by omega))
    have := h n (by omega)
    unfold sumTo
    omega
theorem sumTo_lt {U V : List Int} : ∀ n, (∀ i, i < n → V[i]?.getD 0 ≤ U[i]?.getD 0) → (∃ i, i < n ∧ V[i]?.getD 0 < U[i]?.getD 0) → sumTo V n < sumTo U n
  | 0, _, ⟨i, hi, _⟩ => by omega
  | n + 1, h, ⟨i, hi, hlt⟩ => by
    unfold sumTo
    by_cases e : i = n
    · subst e
      have := sumTo_le i (fun j hj => h j (by omega))
      omega
    · have := sumTo_lt n (fun j hj => h j (by omega)) ⟨i, by omega, hlt⟩
      have := h n (by omega)
      omega
theorem sumTo_bd {V : List Int} (h : good V = true) : ∀ n, n ≤ 16 → 0 ≤ sumTo V n ∧ sumTo V n ≤ 1099511627776 * n
  | 0, _ => by simp [sumTo]
  | n + 1, hn => by
    have := sumTo_bd h n (by omega)
    have := good_at h n (by omega)
    unfold sumTo
    omega
theorem cov_refl (V : List Int) : cov V V = true := cov_of fun _ _ => Int.le_refl _
theorem cov_trans {U V X : List Int} (h1 : cov U V = true) (h2 : cov V X = true) : cov U X = true := cov_of fun i hi => by
  have := cov_at h1 i hi; have := cov_at h2 i hi; omega
theorem not_cov {U V : List Int} (h : cov U V = false) : ∃ i, i < 16 ∧ U[i]?.getD 0 < V[i]?.getD 0 := by
  by_cases hc : ∃ i, i < 16 ∧ U[i]?.getD 0 < V[i]?.getD 0
  · exact hc
  · have : cov U V = true := cov_of fun i hi => by
      rcases Int.lt_or_le (U[i]?.getD 0) (V[i]?.getD 0) with h' | h'
      · exact absurd ⟨i, hi, h'⟩ hc
      · exact h'
    rw [this] at h; cases h
/-- what stands behind covers, and is greater or stands ahead -/
theorem beat_up {Vs : List (List Int)} {i k : Nat} (h : beat Vs i k = true) :
    cov (Vs[k]?.getD []) (Vs[i]?.getD []) = true ∧ (sumTo (Vs[i]?.getD []) 16 < sumTo (Vs[k]?.getD []) 16 ∨ (sumTo (Vs[i]?.getD []) 16 ≤ sumTo (Vs[k]?.getD []) 16 ∧ k < i)) := by
  unfold beat cmpv at h
  generalize Vs[i]?.getD [] = U at *
  generalize Vs[k]?.getD [] = V at *
  cases h1 : cov U V <;> cases h2 : cov V U <;> simp [h1, h2] at h
  · exact ⟨rfl, .inl (sumTo_lt 16 (fun j hj => cov_at h2 j hj) (not_cov h1))⟩
  · exact ⟨rfl, .inr ⟨sumTo_le 16 (fun j hj => cov_at h2 j hj), h⟩⟩

theorem covered {Vs : List (List Int)} (hg : ∀ V ∈ Vs, good V = true) : ∀ (n i : Nat), i < Vs.length → ((17592186044416 : Int) - sumTo (Vs[i]?.getD []) 16) * (Vs.length + 1) + i < n → ∃ k, k ∈ lastsTo Vs Vs.length ∧ cov (Vs[k]?.getD []) (Vs[i]?.getD []) = true := by
  intro n
  induction n with
  | zero =>
    intro i hi h
    have hgi : good (Vs[i]?.getD []) = true := by rw [List.getElem?_eq_getElem hi]; exact hg _ (List.getElem_mem hi)
    have hb := sumTo_bd hgi 16 (by omega)
    exfalso
    have : 0 ≤ ((17592186044416 : Int) - sumTo (Vs[i]?.getD []) 16) * (Vs.length + 1) := Int.mul_nonneg (by omega) (by omega)
    omega
  | succ n ih =>
    intro i hi h
    by_cases hl : lastOk Vs i = true
    · exact ⟨i, by unfold lastsTo; rw [List.mem_filter, List.mem_range]; exact ⟨hi, hl⟩, cov_refl _⟩
    · have : ∃ k, k < Vs.length ∧ beat Vs i k = true := by
        by_cases hc : ∃ k, k < Vs.length ∧ beat Vs i k = true
        · exact hc
        · exfalso
          apply hl
          unfold lastOk
          rw [List.all_eq_true]
          intro k hk
          cases hb : beat Vs i k
          · rfl
          · exact absurd ⟨k, List.mem_range.1 hk, hb⟩ hc
      obtain ⟨k, hk, hb⟩ := this
      obtain ⟨hc, hs⟩ := beat_up hb
      obtain ⟨j, hj, hj2⟩ := ih k hk (by
        generalize sumTo (Vs[i]?.getD []) 16 = a at *
        generalize sumTo (Vs[k]?.getD []) 16 = b at *
        have hle : ((17592186044416 : Int) - b) * (Vs.length + 1) + k < (17592186044416 - a) * (Vs.length + 1) + i := by
          rcases hs with hs | ⟨hs, hki⟩
          · have e : (17592186044416 - a : Int) = (17592186044416 - b) + (b - a) := by omega
            rw [e, Int.add_mul]
            have h2 : (1 : Int) * (Vs.length + 1) ≤ (b - a) * (Vs.length + 1) := Int.mul_le_mul_of_nonneg_right (by omega) (by omega)
            omega
          · have h2 : (17592186044416 - b : Int) * (Vs.length + 1) ≤ (17592186044416 - a) * (Vs.length + 1) := Int.mul_le_mul_of_nonneg_right (by omega) (by omega)
            omega
        omega)
      exact ⟨j, hj, cov_trans hj2 hc⟩
theorem covered_by {Vs : List (List Int)} (hg : ∀ V ∈ Vs, good V = true) (i : Nat) (hi : i < Vs.length) : ∃ k, k ∈ lastsTo Vs Vs.length ∧ cov (Vs[k]?.getD []) (Vs[i]?.getD []) = true :=
  covered hg ((((17592186044416 : Int) - sumTo (Vs[i]?.getD []) 16) * (Vs.length + 1) + i).toNat + 1) i hi (by omega)

end Go.Proofs.Ytilnkfcggfaheaa
