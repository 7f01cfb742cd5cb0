/-
  Chains of bumps.
-/
import Derived.Test.YtilnkfcggfaheaaVecLastsM
namespace Go.Proofs.Ytilnkfcggfaheaa

def ch (xs : List Nat) : Nat → List Int
  | 0 => zeros
  | k + 1 => bump (ch xs k) (xs[k]?.getD 0 % 16)
theorem ch_length (xs : List Nat) : ∀ k, (ch xs k).length = 16
  | 0 => rfl
  | k + 1 => by unfold ch; rw [bump_length, ch_length xs k]
theorem ch_bd (xs : List Nat) : ∀ k i, i < 16 → 0 ≤ (ch xs k)[i]?.getD 0 ∧ (ch xs k)[i]?.getD 0 ≤ (k : Int)
  | 0, i, _ => by show 0 ≤ zeros[i]?.getD 0 ∧ zeros[i]?.getD 0 ≤ _; rw [zeros_get]; simp
  | k + 1, i, hi => by
    have h1 := ch_bd xs k i hi
    have h2 := ch_bd xs k (xs[k]?.getD 0 % 16) (Nat.mod_lt _ (by omega))
    unfold ch
    rw [bump_get _ _ (by rw [ch_length]; exact Nat.mod_lt _ (by omega))]
    split <;> omega
theorem ch_good (xs : List Nat) (k : Nat) (hk : k ≤ 1099511627776) : good (ch xs k) = true := good_of fun i hi => by
  have := ch_bd xs k i hi
  omega
theorem ch_ok (xs : List Nat) (k : Nat) (hk : k ≤ 1099511627776) : VecOk (ch xs k) := good_ok (ch_length xs k) (ch_good xs k hk)
theorem sum_bump {V : List Int} (hV : V.length = 16) {r : Nat} (hr : r < 16) : ∀ n, n ≤ 16 → sumTo (bump V r) n = sumTo V n + (if r < n then 1 else 0)
  | 0, _ => by simp [sumTo]
  | n + 1, hn => by
    have := sum_bump hV hr n (by omega)
    unfold sumTo
    rw [this, bump_get _ _ (by omega)]
    by_cases e : n = r
    · subst e; rw [if_neg (by omega), if_pos rfl, if_pos (by omega)]; omega
    · rw [if_neg e]
      by_cases h : r < n
      · rw [if_pos h, if_pos (by omega)]; omega
      · rw [if_neg h, if_neg (by omega)]; omega
theorem ch_sum (xs : List Nat) : ∀ k, sumTo (ch xs k) 16 = k
  | 0 => rfl
  | k + 1 => by
    unfold ch
    rw [sum_bump (ch_length xs k) (Nat.mod_lt _ (by omega)) 16 (by omega), if_pos (Nat.mod_lt _ (by omega)), ch_sum xs k]
    omega
theorem ch_step (xs : List Nat) (k : Nat) : cov (ch xs (k + 1)) (ch xs k) = true := cov_of fun i hi => by
  show (ch xs k)[i]?.getD 0 ≤ (bump (ch xs k) _)[i]?.getD 0
  rw [bump_get _ _ (by rw [ch_length]; exact Nat.mod_lt _ (by omega))]
  split
  · rename_i h; subst h; omega
  · omega
theorem ch_up (xs : List Nat) (i : Nat) : ∀ d, cov (ch xs (i + d)) (ch xs i) = true
  | 0 => cov_refl _
  | d + 1 => cov_trans (ch_step xs (i + d)) (ch_up xs i d)
theorem ch_no (xs : List Nat) {i j : Nat} (h : i < j) : cov (ch xs i) (ch xs j) = false := by
  cases hc : cov (ch xs i) (ch xs j)
  · rfl
  · have := sumTo_le 16 (fun q hq => cov_at hc q hq)
    rw [ch_sum, ch_sum] at this
    omega
theorem ch_lt (xs : List Nat) {i j : Nat} (h : i < j) : cmpv (ch xs i) (ch xs j) = -1 := by
  unfold cmpv
  obtain ⟨d, rfl⟩ : ∃ d, j = i + d := ⟨j - i, by omega⟩
  rw [ch_no xs h, ch_up]
  rfl
theorem ch_gt (xs : List Nat) {i j : Nat} (h : i < j) : cmpv (ch xs j) (ch xs i) = 1 := by
  unfold cmpv
  obtain ⟨d, rfl⟩ : ∃ d, j = i + d := ⟨j - i, by omega⟩
  rw [ch_no xs h, ch_up]
  rfl
theorem ch_same (xs : List Nat) (i : Nat) : cmpv (ch xs i) (ch xs i) = 0 := by
  unfold cmpv
  rw [cov_refl]
  rfl

def chs (xs : List Nat) (n : Nat) : List (List Int) := (List.range n).map fun i => ch xs (i + 1)
theorem chs_length (xs : List Nat) (n : Nat) : (chs xs n).length = n := by simp [chs]
theorem chs_get (xs : List Nat) (n i : Nat) (h : i < n) : (chs xs n)[i]?.getD [] = ch xs (i + 1) := by
  unfold chs; rw [List.getElem?_map, List.getElem?_range h]; rfl
theorem chs_succ (xs : List Nat) (n : Nat) : chs xs (n + 1) = chs xs n ++ [ch xs (n + 1)] := by
  unfold chs; rw [List.range_succ, List.map_append]; rfl
theorem chs_good (xs : List Nat) (n : Nat) (hn : n ≤ 1099511627775) : ∀ V ∈ chs xs n, good V = true := by
  intro V hV
  obtain ⟨i, hi, rfl⟩ := List.mem_map.1 hV
  exact ch_good xs _ (by have := List.mem_range.1 hi; omega)
theorem chs_ok (xs : List Nat) (n : Nat) (hn : n ≤ 1099511627775) : ∀ V ∈ chs xs n, VecOk V := by
  intro V hV
  obtain ⟨i, hi, rfl⟩ := List.mem_map.1 hV
  exact ch_ok xs _ (by have := List.mem_range.1 hi; omega)
theorem mgl_chs (xs : List Nat) : ∀ n, n ≤ 1099511627775 → mgl (chs xs n) = ch xs n
  | 0, _ => rfl
  | n + 1, hn => by
    have ih := mgl_chs xs n (by omega)
    rw [chs_succ]
    unfold mgl at ih ⊢
    rw [List.foldl_append, ih]
    show mg (ch xs n) (ch xs (n + 1)) = _
    refine ext16 (mg_length _ _) (ch_length _ _) fun i hi => ?_
    rw [mg_get _ _ _ hi]
    have := cov_at (ch_step xs n) i hi
    omega
theorem lasts_chs (xs : List Nat) (n : Nat) : lastsTo (chs xs (n + 1)) (n + 1) = [n] := by
  have hno : ∀ m, m ≤ n → lastsTo (chs xs (n + 1)) m = [] := by
    intro m
    induction m with
    | zero => intro _; rfl
    | succ m ih =>
      intro hm
      rw [lastsTo_no (k := n) (by rw [chs_length]; omega) ?_]
      · exact ih (by omega)
      · unfold beat
        rw [chs_get _ _ _ (by omega), chs_get _ _ _ (by omega), ch_lt xs (show m + 1 < n + 1 by omega)]
        rfl
  rw [lastsTo_yes, hno n (Nat.le_refl _)]
  · rfl
  · intro k hk
    rw [chs_length] at hk
    unfold beat
    rw [chs_get _ _ _ (by omega), chs_get _ _ _ hk]
    rcases Nat.lt_or_ge k n with h | h
    · rw [ch_gt xs (show k + 1 < n + 1 by omega)]; rfl
    · obtain rfl : k = n := by omega
      rw [ch_same]; simp

end Go.Proofs.Ytilnkfcggfaheaa
