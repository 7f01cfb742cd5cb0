/-
  Two arrays of 16 numbers compared with ==.
-/
import Derived.Test.YtilnkfcggfaheaaVecMerge
namespace Go.Proofs.Ytilnkfcggfaheaa
open Go.RowKit Go.Shelf

theorem part_ivs (V : List Int) (hV : V.length = 16) (k : Nat) (hk : k < 16) (w : World) : (part 3 (ivs V) k).run Try.prog w = .ok (.int .i64 (V[k]?.getD 0)) w := by
  have hg := ivs_get V k (by omega)
  have hu := Try.underlying3
  simp [part, go_sem]
  rw [hg]
  rfl

def eqAt (U V : List Int) (l : List Nat) : Bool := l.all fun i => U[i]?.getD 0 == V[i]?.getD 0
theorem eq_loop (d : Nat) (U V : List Int) (hU : U.length = 16) (hV : V.length = 16) (w : World) : ∀ m k : Nat, k + m = 16 →
    (forIn (List.range' k m) ((none, ()) : Option Bool × Unit) fun i _ => do
      let x ← part 3 (ivs U) (i * 1)
      let y ← part 3 (ivs V) (i * 1)
      let r ← Op.equalIn (d + 1) 3 x y
      if r = false then pure (ForInStep.done (some false, ())) else pure (ForInStep.yield (none, ()))).run Try.prog w =
    .ok (if eqAt U V (List.range' k m) = true then (none, ()) else (some false, ())) w
  | 0, k, hk => by simp [eqAt]
  | m + 1, k, hk => by
    rw [List.range'_succ, List.forIn_cons]
    simp only [Sem.run_bind, Nat.mul_one, part_ivs U hU k (by omega) w, part_ivs V hV k (by omega) w, Result.andThen_ok, run_equalIn_int w d 3 .i64 .i64 (U[k]?.getD 0) (V[k]?.getD 0) Try.underlying3]
    have ih := eq_loop d U V hU hV w m (k + 1) (by omega)
    simp only [Nat.mul_one] at ih
    unfold eqAt at ih ⊢
    rw [List.all_cons]
    cases hb : (U[k]?.getD 0 == V[k]?.getD 0)
    · simp
    · simp only [Bool.true_eq_false, if_false, Sem.run_pure, Result.andThen_ok, Bool.true_and]
      exact ih

theorem run_equalIn_ivs (d : Nat) (T : TypeId) (hT : Try.prog.underlying T = some (.array 16 3)) (U V : List Int) (hU : U.length = 16) (hV : V.length = 16) (w : World) :
    (Op.equalIn (d + 1 + 1) T (.agg (ivs U)) (.agg (ivs V))).run Try.prog w = .ok (decide (U = V)) w := by
  have hinfo : (Try.prog.info? 3).map (fun i => (i.zero, i.size, i.bytes)) = some (some (.int .i64 0), 1, 8) := by kernel_rfl
  obtain ⟨i0, hi, hz0, hz1, hz2⟩ := info_parts hinfo
  rw [Op.equalIn]
  simp only [Sem.run_bind, run_underlying hT, Result.andThen_ok, sizeOf, typeInfo, Sem.run_pure]
  simp
  rw [hi]
  simp only [Sem.run_pure, Result.andThen_ok, hz1]
  rw [eq_loop d U V hU hV w 16 0 rfl]
  have he : eqAt U V (List.range' 0 16) = decide (U = V) := by
    rw [Bool.eq_iff_iff, decide_eq_true_iff]
    unfold eqAt
    rw [List.all_eq_true]
    constructor
    · intro h
      exact ext16 hU hV (fun i hi => by simpa using h i (by simp [List.mem_range']; omega))
    · rintro rfl i _
      simp
  rw [he]
  by_cases h : U = V
  · simp [h]
  · simp [h]

theorem eql_vec (U V : List Int) (hU : U.length = 16) (hV : V.length = 16) (w : World) : (Op.equalIn 10000 25 (.agg (ivs U)) (.agg (ivs V))).run Try.prog w = .ok (decide (U = V)) w :=
  run_equalIn_ivs 9998 _ Try.underlying25 U V hU hV w

end Go.Proofs.Ytilnkfcggfaheaa
