/-
  Plain law: what is encoded is read back; what is cut is not read to the end.
-/
import Derived.Test.YtbbnmfdhpepdnaaCodP
namespace Go.Proofs.Ytbbnmfdhpepdnaa
open Go.RowKit

theorem numT_numB (m : Nat) : ∀ (i n : Nat) (r : List Nat), i + (numB m).length ≤ 9 → (0 < m ∨ i = 0) → n + m * 128 ^ i ≤ 9223372036854775807 → numT 9223372036854775807 i n (numB m ++ r) = .ok (n + m * 128 ^ i, r) := by
  induction m using Nat.strongRecOn with
  | _ m ih =>
    intro i n r hi h0 hm
    by_cases hs : m < 128
    · rw [numB_small hs] at hi ⊢
      simp only [List.length_cons, List.length_nil] at hi
      rw [List.cons_append, List.nil_append, numT_cons, if_neg (by omega), if_neg (by omega), Nat.mod_eq_of_lt hs, if_neg (by omega)]
    · rw [numB_big hs] at hi ⊢
      simp only [List.length_cons] at hi
      have e1 : (128 + m % 128) % 128 = m % 128 := by omega
      have e2 : n + m % 128 * 128 ^ i + m / 128 * 128 ^ (i + 1) = n + m * 128 ^ i := by
        have h1 : m % 128 * 128 ^ i + m / 128 * 128 ^ (i + 1) = (m % 128 + 128 * (m / 128)) * 128 ^ i := by rw [Nat.pow_succ, Nat.add_mul, Nat.mul_comm 128 (m / 128), Nat.mul_assoc, Nat.mul_comm 128 (128 ^ i)]
        rw [Nat.add_assoc, h1, Nat.mod_add_div]
      rw [List.cons_append, numT_cons, if_neg (by omega), if_pos (by omega), e1, ih (m / 128) (by omega) (i + 1) _ r (by omega) (.inl (by omega)) (by rw [e2]; exact hm), e2]
theorem numT_cut (m : Nat) : ∀ (i n j : Nat), i + (numB m).length ≤ 9 → (0 < m ∨ i = 0) → j < (numB m).length → numT 9223372036854775807 i n ((numB m).take j) = .error 6 := by
  induction m using Nat.strongRecOn with
  | _ m ih =>
    intro i n j hi h0 hj
    rcases j with _ | j
    · rfl
    · by_cases hs : m < 128
      · rw [numB_small hs] at hj; simp at hj
      · rw [numB_big hs] at hi hj ⊢
        simp only [List.length_cons] at hi hj
        rw [List.take_succ_cons, numT_cons, if_neg (by omega), if_pos (by omega)]
        exact ih (m / 128) (by omega) (i + 1) _ j (by omega) (.inl (by omega)) (by omega)
theorem numT_back {m : Nat} (hm : m < 9223372036854775808) (r : List Nat) : numT 9223372036854775807 0 0 (numB m ++ r) = .ok (m, r) := by
  have := numT_numB m 0 0 r (by have := numB_nine hm; omega) (.inr rfl) (by omega)
  simpa using this
theorem numT_off {m : Nat} (hm : m < 9223372036854775808) {j : Nat} (hj : j < (numB m).length) : numT 9223372036854775807 0 0 ((numB m).take j) = .error 6 :=
  numT_cut m 0 0 j (by have := numB_nine hm; omega) (.inr rfl) hj
theorem bytesT_back (bs r : List Nat) (h : bs.length ≤ 300) : bytesT 9223372036854775807 (numB bs.length ++ bs ++ r) = .ok (bs, r) := by
  unfold bytesT
  rw [List.append_assoc, numT_back (by omega)]
  dsimp only
  rw [if_pos (by rw [List.length_append]; omega), List.take_left', List.drop_left'] <;> rfl
theorem bytesT_cut (bs : List Nat) (h : bs.length ≤ 300) {j : Nat} (hj : j < (numB bs.length ++ bs).length) : bytesT 9223372036854775807 ((numB bs.length ++ bs).take j) = .error 6 := by
  unfold bytesT
  rw [List.length_append] at hj
  by_cases h1 : j < (numB bs.length).length
  · rw [List.take_append_of_le_length (by omega), numT_off (by omega) h1]
  · rw [List.take_append, List.take_of_length_le (by omega), numT_back (by omega)]
    dsimp only
    rw [if_neg (by rw [List.length_take]; omega)]
theorem next_back {k N : Nat} {bs : List Nat} (ho : OkI k N bs) (r : List Nat) : nextT k 9223372036854775807 (putB k N bs ++ r) = .ok ((N, bs), r) := by
  obtain ⟨hk, hN, h3, h4, h300, hlt, hz, hnil⟩ := ho
  unfold nextT putB
  by_cases h1 : k = 1 ∨ k = 2
  · rw [if_pos h1, if_pos h1, bytesT_back bs r h300]
    have : N = 0 := by have := hz (by omega); omega
    rw [this]
  · rw [if_neg h1, if_neg h1]
    by_cases hk3 : k = 3
    · rw [if_pos hk3, if_pos hk3]
      have hN1 := h3 hk3
      rw [hnil (by omega)]
      rcases N with _ | _ | N
      · rfl
      · rfl
      · omega
    · rw [if_neg hk3, if_neg hk3]
      by_cases hk4 : k = 4
      · rw [if_pos hk4, if_pos hk4]
        have hl := h4 hk4
        have hN0 : N = 0 := by have := hz (by omega); omega
        have ht : takeT 32 (bs ++ r) = .ok (bs, r) := by
          unfold takeT
          rw [if_pos (by rw [List.length_append]; omega), List.take_left' hl, List.drop_left' hl]
        rw [ht, hN0]
      · rw [if_neg hk4, if_neg hk4, numT_back hN, hnil (by omega)]
theorem next_cut {k N : Nat} {bs : List Nat} (ho : OkI k N bs) {j : Nat} (hj : j < (putB k N bs).length) : nextT k 9223372036854775807 ((putB k N bs).take j) = .error 6 := by
  obtain ⟨hk, hN, h3, h4, h300, hlt, hz, hnil⟩ := ho
  unfold nextT
  unfold putB at hj ⊢
  by_cases h1 : k = 1 ∨ k = 2
  · rw [if_pos h1] at hj ⊢
    rw [if_pos h1, bytesT_cut bs h300 hj]
  · rw [if_neg h1] at hj ⊢
    rw [if_neg h1]
    by_cases hk3 : k = 3
    · rw [if_pos hk3] at hj ⊢
      rw [if_pos hk3]
      obtain rfl : j = 0 := by simpa using hj
      rfl
    · rw [if_neg hk3] at hj ⊢
      rw [if_neg hk3]
      by_cases hk4 : k = 4
      · rw [if_pos hk4] at hj ⊢
        rw [if_pos hk4]
        have hl := h4 hk4
        have ht : takeT 32 (bs.take j) = .error 6 := by
          unfold takeT
          rw [if_neg (by rw [List.length_take]; omega)]
        rw [ht]
      · rw [if_neg hk4] at hj ⊢
        rw [if_neg hk4, numT_off hN hj]

/-- the bytes of items -/
def allB (l : List It) : List Nat := l.flatMap fun t => putB t.k t.N t.bs
def kindsOf (l : List It) : List Nat := l.map It.k
theorem putB_ne {k N : Nat} {bs : List Nat} (ho : OkI k N bs) : 0 < (putB k N bs).length := by
  obtain ⟨hk, hN, h3, h4, h300, hlt, hz, hnil⟩ := ho
  have h0 : ∀ m, 0 < (numB m).length := fun m => List.length_pos_iff.2 (numB_ne m)
  unfold putB
  split
  · rw [List.length_append]; have := h0 bs.length; omega
  · split
    · simp
    · split
      · have := h4 (by assumption); omega
      · exact h0 N
theorem putB_len {k N : Nat} {bs : List Nat} (ho : OkI k N bs) : (putB k N bs).length ≤ 309 := by
  obtain ⟨hk, hN, h3, h4, h300, hlt, hz, hnil⟩ := ho
  unfold putB
  split
  · rw [List.length_append]; have := numB_nine (n := bs.length) (by omega); omega
  · split
    · simp
    · split
      · omega
      · have := numB_nine hN; omega
theorem putB_lt {k N : Nat} {bs : List Nat} (ho : OkI k N bs) : ∀ x ∈ putB k N bs, x < 256 := by
  obtain ⟨hk, hN, h3, h4, h300, hlt, hz, hnil⟩ := ho
  intro x hx
  unfold putB at hx
  split at hx
  · rcases List.mem_append.1 hx with h | h
    · exact numB_lt _ x h
    · exact hlt x h
  · split at hx
    · have := h3 (by assumption)
      simp at hx; omega
    · split at hx
      · exact hlt x hx
      · exact numB_lt _ x hx
theorem allB_len (l : List It) (h : ∀ t ∈ l, OkI t.k t.N t.bs) : (allB l).length ≤ 309 * l.length := by
  induction l with
  | nil => simp [allB]
  | cons t l ih =>
    have h1 := ih fun t ht => h t (List.mem_cons_of_mem _ ht)
    have h2 := putB_len (h t (List.mem_cons_self ..))
    unfold allB at h1 ⊢
    rw [List.flatMap_cons, List.length_append, List.length_cons]
    omega
theorem all_back (more : List Nat) : ∀ (l : List It), (∀ t ∈ l, OkI t.k t.N t.bs) → endT 9223372036854775807 (kindsOf l) (allB l ++ more) = .ok more ∧ itemsT 9223372036854775807 (kindsOf l) (allB l ++ more) = l.map It.key
  | [], _ => ⟨rfl, rfl⟩
  | t :: l, h => by
    have ho := h t (List.mem_cons_self ..)
    obtain ⟨h1, h2⟩ := all_back more l fun t ht => h t (List.mem_cons_of_mem _ ht)
    have hn := next_back ho (allB l ++ more)
    have hk6 : t.k % 6 = t.k := Nat.mod_eq_of_lt ho.1
    have e : allB (t :: l) ++ more = putB t.k t.N t.bs ++ (allB l ++ more) := by unfold allB; rw [List.flatMap_cons, List.append_assoc]
    rw [e]
    show endT _ (t.k :: kindsOf l) _ = _ ∧ itemsT _ (t.k :: kindsOf l) _ = _
    rw [endT_ok (by rw [hk6]; exact hn), itemsT_ok (by rw [hk6]; exact hn), h1, h2, hk6]
    exact ⟨rfl, rfl⟩
theorem all_cut : ∀ (l : List It) (j : Nat), (∀ t ∈ l, OkI t.k t.N t.bs) → j < (allB l).length → endT 9223372036854775807 (kindsOf l) ((allB l).take j) = .error 6 ∧ (itemsT 9223372036854775807 (kindsOf l) ((allB l).take j)).length < l.length
  | [], j, _, hj => by simp [allB] at hj
  | t :: l, j, h, hj => by
    have ho := h t (List.mem_cons_self ..)
    have hk6 : t.k % 6 = t.k := Nat.mod_eq_of_lt ho.1
    have e : allB (t :: l) = putB t.k t.N t.bs ++ allB l := by unfold allB; rw [List.flatMap_cons]
    rw [e] at hj ⊢
    show endT _ (t.k :: kindsOf l) _ = _ ∧ (itemsT _ (t.k :: kindsOf l) _).length < _
    by_cases hc : j < (putB t.k t.N t.bs).length
    · have hn := next_cut ho hc
      rw [List.take_append_of_le_length (by omega), endT_no (by rw [hk6]; exact hn), itemsT_no (by rw [hk6]; exact hn)]
      exact ⟨rfl, by simp⟩
    · have hn := next_back ho ((allB l).take (j - (putB t.k t.N t.bs).length))
      rw [List.length_append] at hj
      obtain ⟨h1, h2⟩ := all_cut l (j - (putB t.k t.N t.bs).length) (fun t ht => h t (List.mem_cons_of_mem _ ht)) (by omega)
      rw [List.take_append, List.take_of_length_le (by omega), endT_ok (by rw [hk6]; exact hn), itemsT_ok (by rw [hk6]; exact hn)]
      exact ⟨h1, by simp only [List.length_cons]; omega⟩

end Go.Proofs.Ytbbnmfdhpepdnaa
