/-
  CodecAnys: the function that reads the items again.
-/
import Derived.Test.YtbbnmfdhpepdnaaCodAn
import Derived.Deep.LoopGhost
namespace Go.Proofs.Ytbbnmfdhpepdnaa
open Go.RowKit

theorem numT_len {most : Int} {xs : List Nat} {i n v : Nat} {ys : List Nat} (h : numT most i n xs = .ok (v, ys)) : ys.length ≤ xs.length := by
  obtain ⟨k, _, _, rfl⟩ := numT_suffix most xs i n v ys h
  rw [List.length_drop]; omega
theorem nextT_len {k : Nat} {most : Int} {xs ys bs : List Nat} {N : Nat} (h : nextT k most xs = .ok ((N, bs), ys)) : bs.length ≤ xs.length := by
  unfold nextT at h
  split at h
  · unfold bytesT at h
    cases hn : numT most 0 0 xs with
    | error e => rw [hn] at h; cases h
    | ok s =>
      obtain ⟨v, zs⟩ := s
      rw [hn] at h
      dsimp only at h
      split at h
      · cases h
      · rename_i h2
        split at h2
        · cases h2; cases h
          have := numT_len hn
          rw [List.length_take]; omega
        · cases h2
  · split at h
    · split at h
      · cases h
      · cases h; simp
    · split at h
      · unfold takeT at h
        split at h
        · cases h
        · rename_i h2
          split at h2
          · cases h2; cases h; rw [List.length_take]; omega
          · cases h2
      · split at h
        · cases h
        · cases h; simp
/-- what the function finds: the kinds, the most, the items that are to come -/
structure AnyCtx (w0 : World) (most : Int) (bk bm bw : Nat) (Ak : Option Addr) (ck : Nat) (ks : List Nat) (Aw : Option Addr) (cw : Nat) (l : List It) : Prop where
  hk : w0.heap[bk]? = some (.cells #[.slice Ak ks.length ck] 25 (0, 0))
  hm : w0.heap[bm]? = some (.cells #[.int .i64 most] 3 (0, 0))
  hw : w0.heap[bw]? = some (.cells #[.slice Aw l.length cw] 31 (0, 0))
  kinds : RowU8 w0 Ak ks
  items : ItemsAt w0 Aw l
  few : ks.length ≤ 60 ∧ l.length ≤ 60
/-- what it leaves, so far -/
structure AnyAt (w0 : World) (n : Nat) (w1 : World) : Prop where
  hn : w1.heap[w0.heap.size]? = some (.cells #[.int .i64 (n : Int)] 3 (0, 0))
  ho : w1.heap[w0.heap.size + 1]? = some (.cells #[.bool true] 4 (0, 0))
  below : Below w0.heap.size w0 w1

theorem exec_call {ρ : Operand → Value} {o : Oper} (f : Nat) (c : Call) (ho : o.op = .call c) (x : Operand) (hc1 : c.callee = .value x) (hc2 : ρ x = .func (.func f) #[] #[]) (args : Array Value)
    (hp : c.args.toList.map ρ = args.toList) (fn : Func) (hf : Try.prog.funcs[f]? = some fn) (hn : (fn.name == "runtime.NumGoroutine") = false) (hb : fn.body.isNone = false) (w : World) : (execOp ρ o).run Try.prog w = .ok (.enter f args) w := by
  have e : c.args.map ρ = args := by
    apply Array.toList_inj.1
    rw [Array.toList_map, hp]
  unfold execOp
  rw [ho]
  simp only [resolve, hc1, hc2, e, Sem.run_bind]
  have hn' : ¬ fn.name = "runtime.NumGoroutine" := by simpa using hn
  have hb' : ¬ fn.body = none := by intro h; rw [h] at hb; simp at hb
  simp [Deferred.ofValue, invoke, callFunc, hf, hn', hb', go_sem]
theorem exec_load_mid {P : Program} {ρ : Operand → Value} {o : Oper} {w : World} (ty : TypeId) (x : Operand) (ho : o.op = .load ty x)
    (b of : Nat) (hx : ρ x = .pointer (some ⟨b, of, none⟩)) (cs : List Value) (d : TypeDesc) (hc : w.rangeAt b of cs)
    (hu : P.underlying ty = some d) (hd : d.isRow = true) (hi : (P.info? ty).map (·.size) = some cs.length) : (execOp ρ o).run P w = .ok (.value (.agg cs.toArray)) w := by
  unfold execOp
  simp only [ho, hx, Instr.loadAt, Instr.sureAddr, Sem.run_bind, Sem.run_pure, Result.andThen_ok, run_loadVar_mid w b of ty cs d hc hu hd hi]

set_option maxRecDepth 100000 in
set_option maxHeartbeats 4000000 in
theorem anysF (w0 : World) (most : Int) (bk bm bw : Nat) (Ak : Option Addr) (ck : Nat) (ks : List Nat) (Aw : Option Addr) (cw : Nat) (l : List It) (hctx : AnyCtx w0 most bk bm bw Ak ck ks Aw cw l)
    (xs : List Nat) (hl : l.map It.key = itemsT most ks xs) (q : Nat) (hq : w0.heap.size = q) (g : Nat) (A : Option Addr) (c : Nat) (wi : World) (hrd : Rd wi g A c xs) (hat : AnyAt w0 0 wi) (hg : q + 2 ≤ g) (hA : ∀ a, A = some a → q + 2 ≤ a.block) :
    Calls Try.prog 14 #[.pointer (some ⟨g, 0, none⟩), .pointer (some ⟨bk, 0, none⟩), .pointer (some ⟨bm, 0, none⟩), .pointer (some ⟨q + 1, 0, none⟩), .pointer (some ⟨q, 0, none⟩), .pointer (some ⟨bw, 0, none⟩)] wi
      (FnPost (q + 2) g A wi (fun ys w1 => endT most ks xs = .ok ys ∧ AnyAt w0 l.length w1) (fun code w1 => ∃ e : Nat, code = (e : Int) ∧ endT most ks xs = .error e ∧ AnyAt w0 l.length w1)) := by
  have hbk := (Array.getElem?_eq_some_iff.1 hctx.hk).1
  have hbm := (Array.getElem?_eq_some_iff.1 hctx.hm).1
  have hbw := (Array.getElem?_eq_some_iff.1 hctx.hw).1
  have ck0 := (hat.below.cell (p := ⟨bk, 0, none⟩) hbk).trans (cell_of_row w0 bk 0 _ _ _ hctx.hk)
  obtain ⟨len, hlen⟩ : ∃ n, ks.length = n := ⟨_, rfl⟩
  have HL := Lib.hid hlen
  have hfew := hctx.few
  rw [hlen] at ck0 hfew
  have HX := Lib.hid (And.intro hctx (And.intro hl (And.intro hq (And.intro hat (And.intro hrd (And.intro hbk (And.intro hbm hbw)))))))
  clear hlen hctx hl hat hrd hq
  go_enter Try.func14, Try.ntmps14
  go_wp2
  clear ck0
  go_loopg [8, 9, 10, 13] len (fun gk s8 s9 s10 s13 wx => ∃ (j : Nat) (ys : List Nat) (A' : Option Addr) (c' : Nat), j + gk = len ∧ s13 = .int .i64 (j : Int) ∧ Rd wx g A' c' ys ∧ SameB A A' ∧ AnyAt w0 j wx ∧
    (l.map It.key).drop j = itemsT most (ks.drop j) ys ∧ j ≤ l.length ∧ endT most ks xs = endT most (ks.drop j) ys ∧ wi.heap.size ≤ wx.heap.size ∧ ∀ k, q + 2 ≤ k → k < wi.heap.size → k ≠ g → (∀ a, A = some a → a.block ≠ k) → wx.heap[k]? = wi.heap[k]?)
  case atStart => exact ⟨0, xs, A, c, by omega, rfl, HX.out.2.2.2.2.1, SameB.refl _, HX.out.2.2.2.1, HX.out.2.1, Nat.zero_le _, rfl, Nat.le_refl _, fun _ _ _ _ _ => rfl⟩
  case round =>
    obtain ⟨j, ys, A', c', hjg, rfl, hrd, hsb, hat, hits, hjl, hend, hsz, hkeep⟩ := hrel
    cases gk with
    | zero =>
      obtain rfl : j = len := by omega
      have hnil : ks.drop j = [] := List.drop_eq_nil_of_le (by rw [HL.out]; exact Nat.le_refl _)
      rw [hnil] at hits hend
      have hjl' : l.length = j := by
        have := congrArg List.length hits
        simp [itemsT] at this
        omega
      have HF := Lib.hid (And.intro hrd (And.intro hat (And.intro hend (And.intro hsz (And.intro hkeep hjl')))))
      have hkz : ¬ ((j : Int) < (j : Int)) := by omega
      clear hrd hsb hat hits hjl hend hsz hkeep hjl' hnil
      go_wp2
      go_end0
      obtain ⟨hrd, hat, hend, hsz, hkeep, hjl'⟩ := HF.out
      have hb := hat.below
      have hb0 := HX.out.2.2.2.1.below
      exact ⟨hb.os.trans hb0.os.symm, hb.tape.trans hb0.tape.symm, hb.output.trans hb0.output.symm, hsz, hkeep, .inl ⟨rfl, A', c', ys, hrd, hend, by rw [hjl']; exact hat⟩⟩
    | succ gj =>
      obtain ⟨wo, rfl⟩ : ∃ wo : World, wo = wr := ⟨_, rfl⟩
      have hjl2 : j < ks.length := by rw [HL.out]; omega
      have hlt : (j : Int) < (len : Int) := by omega
      obtain ⟨k, hk, hke⟩ : ∃ k, ks.drop j = k :: ks.drop (j + 1) ∧ ks[j]?.getD 0 = k := ⟨ks[j], List.drop_eq_getElem_cons hjl2, by rw [List.getElem?_eq_getElem hjl2]; rfl⟩
      have hk256 : k < 256 := by rw [← hke]; exact getD_lt HX.out.1.kinds.lt j
      obtain ⟨b, off, e1, hc⟩ := (HX.out.1.kinds.below hat.below).form (by omega)
      have c1 := hc j hjl2
      rw [hke] at c1
      subst e1
      have cm := (hat.below.cell (p := ⟨bm, 0, none⟩) hbm).trans (cell_of_row w0 bm 0 _ _ _ HX.out.1.hm)
      have e6 : (k : Int) % 6 = ((k % 6 : Nat) : Int) := by omega
      have HN := Lib.hid (next_any (k % 6) g (Nat.mod_lt _ (by decide)) A' c' ys most wo hrd)
      have hjl' : j ≤ l.length := hjl
      rw [hk] at hits hend
      have HR := Lib.hid (And.intro hrd (And.intro hsb (And.intro hat (And.intro hits (And.intro hend (And.intro hsz (And.intro hkeep (And.intro hjg hjl'))))))))
      have HK := Lib.hid hk
      clear hc hrd hsb hat hits hend hsz hkeep hjg hjl hjl' hke hk
      have HE6 := Lib.hid (show k % 6 < 6 from Nat.mod_lt _ (by decide))
      generalize hkk : k % 6 = kk at *
      go_wp2_with (fail)
      refine HN.out.mono ?_
      clear HN c1 cm
      rintro e w1 ⟨hkp, hp⟩
      cases hnx : nextT kk most ys with
      | error code =>
        rw [hnx] at hp
        subst hp
        have HP := Lib.hid hkp
        clear hkp
        go_wp2
        obtain ⟨hrd, hsb, hat, hits, hend, hsz, hkeep, hjg, hjl⟩ := HR.out
        have hkp := HP.out
        subst hkk
        rw [itemsT_no hnx] at hits
        rw [endT_no hnx] at hend
        have hjl' : l.length = j := by
          have := congrArg List.length hits
          simp at this
          omega
        have hb := hat.below
        have hb0 := HX.out.2.2.2.1.below
        have hq := HX.out.2.2.1
        have hqs : q + 2 ≤ wo.heap.size := by have := (Array.getElem?_eq_some_iff.1 hat.ho).1; omega
        refine ⟨rfl, hkp.os.trans (hb.os.trans hb0.os.symm), hkp.tape.trans (hb.tape.trans hb0.tape.symm), hkp.output.trans (hb.output.trans hb0.output.symm), Nat.le_trans hsz hkp.size, fun k h1 h2 h3 h4 => (hkp.block k (by omega) h3).trans (hkeep k h1 h2 h3 h4), .inr ⟨_, rfl, code, rfl, hend, ?_⟩⟩
        rw [hjl']
        refine ⟨(hkp.block _ (by omega) (by omega)).trans hat.hn, (hkp.block _ (by omega) (by omega)).trans hat.ho, hb.trans ⟨hkp.os, hkp.tape, hkp.output, hkp.size, fun k hk => hkp.block k (by have := hb.size; omega) (by omega)⟩⟩
      | ok s =>
        obtain ⟨⟨N, bs⟩, zs⟩ := s
        rw [hnx] at hp
        obtain ⟨A1, cB, A2, c2, rfl, hb1, hrd2, hsb2, hA1, hah⟩ := hp
        obtain ⟨t, ht, htk, hrest⟩ : ∃ t, l[j]? = some t ∧ t.key = (kk, N, bs) ∧ (l.map It.key).drop (j + 1) = itemsT most (ks.drop (j + 1)) zs := by
          have hits := HR.out.2.2.2.1
          subst hkk
          rw [itemsT_ok hnx] at hits
          have hjl : j < l.length := by
            rcases Nat.lt_or_ge j l.length with h | h
            · exact h
            · rw [List.drop_eq_nil_of_le (by simpa using h)] at hits; cases hits
          refine ⟨l[j], List.getElem?_eq_getElem hjl, ?_, ?_⟩
          · rw [List.drop_eq_getElem_cons (by simpa using hjl)] at hits
            have := (List.cons.inj hits).1
            simpa using this
          · rw [List.drop_eq_getElem_cons (by simpa using hjl)] at hits
            exact (List.cons.inj hits).2
        have hend2 : endT most ks xs = endT most (ks.drop (j + 1)) zs := by
          have := HR.out.2.2.2.2.1
          subst hkk
          rwa [endT_ok hnx] at this
        obtain ⟨n, hn⟩ : ∃ n, bs.length = n := ⟨_, rfl⟩
        rw [hn]
        have hset := setRow_new w1 (item0 0) #[.int .i64 (kk : Int), .int .i64 (N : Int), .slice A1 n cB] 33
        have hzn := heap_alloc_new w1 (.cells (item0 0) 33)
        have hzi := run_zero_item
        obtain ⟨w2, hw2⟩ : ∃ w2, w1.alloc (.cells #[.int .i64 (kk : Int), .int .i64 (N : Int), .slice A1 n cB] 33) = w2 := ⟨_, rfl⟩
        rw [hw2] at hset
        have hx9 : w2.heap[w1.heap.size]? = some (.cells #[.int .i64 (kk : Int), .int .i64 (N : Int), .slice A1 n cB] 33 (0, 0)) := by rw [← hw2]; exact heap_alloc_new w1 _
        have hb12 : Below w1.heap.size w1 w2 := by rw [← hw2]; exact (Below.refl _ w1).alloc (Nat.le_refl _) _
        have hs2 : w2.heap.size = w1.heap.size + 1 := by rw [← hw2]; simp
        have HP := Lib.hid (And.intro hkp (And.intro hb1 (And.intro hrd2 (And.intro hsb2 (And.intro hA1 (And.intro hah (And.intro ht (And.intro htk (And.intro hrest (And.intro hend2 (And.intro hn (And.intro hb12 (And.intro hs2 hnx)))))))))))))
        clear hkp hb1 hrd2 hsb2 hA1 hah ht htk hrest hend2 hn hb12 hw2 hs2 hnx
        generalize hbx : w1.heap.size = bx at *
        go_wp2_with (first
          | (refine wpList_store_row rfl 33 (.tmp 9) (.tmp 22) rfl bx 33 (item0 0) #[.int .i64 (kk : Int), .int .i64 (N : Int), .slice A1 n cB] rfl rfl hzn info_item rfl (item_one kk N A1 n cB) ?_; rw [hset]))
        obtain ⟨tk, tN, tbs, At, ct⟩ := t
        have hb1 := HX.out.2.2.1
        obtain ⟨hkp, hb1, hrd2, hsb2, hA1, hah, ht, htk, hrest, hend2, hn, hb12, hs2, hnx⟩ := HP.out
        obtain ⟨rfl, rfl, rfl⟩ : kk = tk ∧ N = tN ∧ bs = tbs := by
          have := htk
          simp only [It.key, Prod.mk.injEq] at this
          exact ⟨this.1.symm, this.2.1.symm, this.2.2.symm⟩
        obtain ⟨hrdq, hsbq, hatq, -⟩ := HR.out
        have hqs : q + 2 ≤ wo.heap.size := by have := (Array.getElem?_eq_some_iff.1 hatq.ho).1; have := HX.out.2.2.1; omega
        have hq0 := HX.out.2.2.1
        have hsz1 : wo.heap.size ≤ w1.heap.size := hkp.size
        have hb02 : Below w0.heap.size w0 w2 := hatq.below.trans ⟨hb12.os.trans hkp.os, hb12.tape.trans hkp.tape, hb12.output.trans hkp.output, by omega, fun k hk => (hb12.block k (by omega)).trans (hkp.block k (by omega) (by omega))⟩
        have ho2 : w2.heap[q + 1]? = some (.cells #[.bool true] 4 (0, 0)) := (hb12.block _ (by omega)).trans ((hkp.block _ (by omega) (by omega)).trans (by rw [← hq0]; exact hatq.ho))
        have hn2 : w2.heap[q]? = some (.cells #[.int .i64 (j : Int)] 3 (0, 0)) := (hb12.block _ (by omega)).trans ((hkp.block _ (by omega) (by omega)).trans (by rw [← hq0]; exact hatq.hn))
        have co := cell_of_row w2 (q + 1) 0 _ _ _ ho2
        have fo := frozen_of_row w2 (q + 1) 0 _ _ ho2
        have cn := cell_of_row w2 q 0 _ _ _ hn2
        have fn := frozen_of_row w2 q 0 _ _ hn2
        have cw0 := (hb02.cell (p := ⟨bw, 0, none⟩) hbw).trans (cell_of_row w0 bw 0 _ _ _ HX.out.1.hw)
        have hlo : q + 1 < w2.heap.size := by omega
        have hln : q < w2.heap.size := by omega
        have hlw : bw < w2.heap.size := by omega
        obtain ⟨b2, o2, eA, hrg⟩ := (HX.out.1.items.keep hb02).range ht
        have hitb : RowU8 w2 At bs := (HX.out.1.items.keep hb02).bytes _ (List.mem_of_getElem? ht)
        have hrow1 : RowU8 w2 A1 bs := hb1.u8.below (by rw [hbx]; exact hb12)
        have HSame : Hid (∀ w1', Below w2.heap.size w2 w1' → Calls Try.prog 16 #[.agg #[.int .i64 (kk : Int), .int .i64 (N : Int), .slice A1 n cB], .agg #[.int .i64 (kk : Int), .int .i64 (N : Int), .slice At n ct]] w1' fun e w' => e = .returned (.bool true) ∧ Below w1'.heap.size w1' w') := Lib.hid fun w1' hC => by
          rw [← hn]
          exact same_any kk kk N N A1 At cB ct bs bs w1' (hrow1.below hC) (hitb.below hC) true (by simp)
        have HRg : Hid (∀ w1', Below w2.heap.size w2 w1' → w1'.rangeAt b2 (o2 + j * 3) [.int .i64 (kk : Int), .int .i64 (N : Int), .slice At n ct]) := Lib.hid fun w1' hC => by
          obtain ⟨b3, o3, eA3, hrg3⟩ := ((HX.out.1.items.keep hb02).keep hC).range ht
          rw [eA] at eA3
          cases eA3
          rw [← hn]
          exact hrg3
        have hjl : j < l.length := (List.getElem?_eq_some_iff.1 ht).1
        have hl60 := HX.out.1.few.2
        obtain ⟨ll, hll⟩ : ∃ ll, l.length = ll := ⟨_, rfl⟩
        rw [hll] at hjl hl60 cw0
        have HLL := Lib.hid hll
        have hjll : (j : Int) < (ll : Int) := by omega
        have HQS := Lib.hid hqs
        subst eA
        clear hkp hb1 hrd2 hsb2 hA1 hah ht htk hrest hend2 hn hb12 hs2 hnx hrdq hsbq hatq hb02 hrg hitb hrow1 hll hzn hzi hset hsz1 hqs
        refine wp_region_rel3 rfl 15 _ (fun W' => Below w2.heap.size w2 W') (fun W1 W2 => Below W1.heap.size W1 W2)
          (fun i => ([fun v _ => v = (.bool true : Value), fun v _ => v = (.bool true : Value), fun v _ => v = (.int .i64 (j : Int) : Value), fun v _ => v = (.slice (some ⟨b2, o2, none⟩) ll cw : Value), fun v _ => v = (.int .i64 (ll : Int) : Value), fun v _ => v = (.bool true : Value), fun v _ => v = (.bool true : Value), fun v _ => v = (.bool true : Value), fun v _ => v = (.agg #[.int .i64 (kk : Int), .int .i64 (N : Int), .slice A1 n cB] : Value), fun v _ => v = (.slice (some ⟨b2, o2, none⟩) ll cw : Value), fun v _ => v = (.int .i64 (j : Int) : Value), fun v _ => v = (.pointer (some ⟨b2, o2 + j * 3, none⟩) : Value), fun v _ => v = (.agg #[.int .i64 (kk : Int), .int .i64 (N : Int), .slice At n ct] : Value), fun v _ => v = (.bool true : Value), fun v _ => v = (.bool true : Value)][i]?).getD (fun _ _ => True))
          (fun x => { tmps := #[.pointer (some ⟨g, 0, none⟩), .pointer (some ⟨bk, 0, none⟩), .pointer (some ⟨bm, 0, none⟩), .pointer (some ⟨q + 1, 0, none⟩), .pointer (some ⟨q, 0, none⟩), .pointer (some ⟨bw, 0, none⟩), undef, undef, .int .u8 (k : Int), .pointer (some ⟨bx, 0, none⟩), u10, .slice (some ⟨b, off, none⟩) len ck, .int .i64 (len : Int), .int .i64 (j : Int), .bool true, .pointer (some ⟨b, off + j, none⟩), .int .u8 (k : Int), .pointer (some ⟨g, 0, none⟩), .int .u8 (k : Int), .int .u8 (kk : Int), .int .i64 (kk : Int), .int .i64 most, .agg #[.int .i64 (kk : Int), .int .i64 (N : Int), .slice A1 n cB], x 0, x 1, x 2, x 3, x 4, x 5, x 6, x 7, x 8, x 9, x 10, x 11, x 12, x 13, x 14, u38, u39, u40, u41, u42, u43, u44, u45, u46, u47, u48, u49, u50, u51, u52, u53, u54], defers := [] }) (fun i => ([(u23 : Value), (u24 : Value), (u25 : Value), (u26 : Value), (u27 : Value), (u28 : Value), (u29 : Value), (u30 : Value), (u31 : Value), (u32 : Value), (u33 : Value), (u34 : Value), (u35 : Value), (u36 : Value), (u37 : Value), (undef : Value)][i]?).getD undef) (fun x => by simp only [fillL, Act.put, List.setIfInBounds_toArray, List.set_cons_zero, List.set_cons_succ, Nat.reduceAdd]) rfl rfl rfl (by kernel_rfl) (by kernel_rfl) (by kernel_rfl) ?xst ((Below.refl _ _).drew) ?xop ?xfin
        case xst =>
          intro i v w1 w2 h hb
          rcases i with _ | _ | _ | _ | _ | _ | _ | _ | _ | _ | _ | _ | _ | _ | _ | i
          · exact h
          · exact h
          · exact h
          · exact h
          · exact h
          · exact h
          · exact h
          · exact h
          · exact h
          · exact h
          · exact h
          · exact h
          · exact h
          · exact h
          · exact h
          · exact h
        case xop =>
          simp only [List.take_succ_cons, List.take_zero]
          refine .cons (StepOp.late (.plain rfl fun x w1 hC hd K hK => ?_)) ?_
          · exact wp_value (v := (.bool true : Value)) (by have c1 := (hC.cell (p := ⟨q + 1, 0, none⟩) hlo).trans co; go_simp) (hK _ _ (Below.refl _ _) hC rfl)
          refine .cons (StepOp.late (.plain rfl fun x w1 hC hd K hK => ?_)) ?_
          · have d0 : x 0 = (.bool true : Value) := hd.get 0 rfl
            dsimp only at hK ⊢
            rw [d0] at hK ⊢
            exact wp_value (v := (.bool true : Value)) (by rfl) (hK _ _ (Below.refl _ _) hC rfl)
          refine .cons (StepOp.late (.yes 1 true 24 rfl rfl (fun x w1 hC hd => by have d : x 1 = .bool true := hd.get 1 rfl; show some (x 1) = _; rw [d]) fun x w1 hC hd K hK => ?_)) ?_
          · exact wp_value (v := (.int .i64 (j : Int) : Value)) (by have c1 := (hC.cell (p := ⟨q, 0, none⟩) hln).trans cn; go_simp) (hK _ _ (Below.refl _ _) hC rfl)
          refine .cons (StepOp.late (.yes 1 true 24 rfl rfl (fun x w1 hC hd => by have d : x 1 = .bool true := hd.get 1 rfl; show some (x 1) = _; rw [d]) fun x w1 hC hd K hK => ?_)) ?_
          · exact wp_value (v := (.slice (some ⟨b2, o2, none⟩) ll cw : Value)) (by have c1 := (hC.cell (p := ⟨bw, 0, none⟩) hlw).trans cw0; go_simp) (hK _ _ (Below.refl _ _) hC rfl)
          refine .cons (StepOp.late (.yes 1 true 24 rfl rfl (fun x w1 hC hd => by have d : x 1 = .bool true := hd.get 1 rfl; show some (x 1) = _; rw [d]) fun x w1 hC hd K hK => ?_)) ?_
          · have d3 : x 3 = (.slice (some ⟨b2, o2, none⟩) ll cw : Value) := hd.get 3 rfl
            dsimp only at hK ⊢
            rw [d3] at hK ⊢
            exact wp_value (v := (.int .i64 (ll : Int) : Value)) (by go_simp) (hK _ _ (Below.refl _ _) hC rfl)
          refine .cons (StepOp.late (.yes 1 true 24 rfl rfl (fun x w1 hC hd => by have d : x 1 = .bool true := hd.get 1 rfl; show some (x 1) = _; rw [d]) fun x w1 hC hd K hK => ?_)) ?_
          · have d2 : x 2 = (.int .i64 (j : Int) : Value) := hd.get 2 rfl
            have d4 : x 4 = (.int .i64 (ll : Int) : Value) := hd.get 4 rfl
            dsimp only at hK ⊢
            rw [d2, d4] at hK ⊢
            exact wp_value (v := (.bool true : Value)) (by go_simp) (hK _ _ (Below.refl _ _) hC rfl)
          refine .cons (StepOp.late (.plain rfl fun x w1 hC hd K hK => ?_)) ?_
          · have d1 : x 1 = (.bool true : Value) := hd.get 1 rfl
            have d5 : x 5 = (.bool true : Value) := hd.get 5 rfl
            dsimp only at hK ⊢
            rw [d1, d5] at hK ⊢
            exact wp_value (v := (.bool true : Value)) (by rfl) (hK _ _ (Below.refl _ _) hC rfl)
          refine .cons (StepOp.late (.plain rfl fun x w1 hC hd K hK => ?_)) ?_
          · have d6 : x 6 = (.bool true : Value) := hd.get 6 rfl
            dsimp only at hK ⊢
            rw [d6] at hK ⊢
            exact wp_value (v := (.bool true : Value)) (by rfl) (hK _ _ (Below.refl _ _) hC rfl)
          refine .cons (StepOp.late (.yes 7 true 30 rfl rfl (fun x w1 hC hd => by have d : x 7 = .bool true := hd.get 7 rfl; show some (x 7) = _; rw [d]) fun x w1 hC hd K hK => ?_)) ?_
          · exact wp_load_row 33 (.tmp 9) rfl bx rfl 33 (#[.int .i64 (kk : Int), .int .i64 (N : Int), .slice A1 n cB]) (0, 0) _ ((hC.block _ (Array.getElem?_eq_some_iff.1 hx9).1).trans hx9) Try.underlying33 rfl (info_item) (hK _ _ (Below.refl _ _) hC rfl)
          refine .cons (StepOp.late (.yes 7 true 30 rfl rfl (fun x w1 hC hd => by have d : x 7 = .bool true := hd.get 7 rfl; show some (x 7) = _; rw [d]) fun x w1 hC hd K hK => ?_)) ?_
          · exact wp_value (v := (.slice (some ⟨b2, o2, none⟩) ll cw : Value)) (by have c1 := (hC.cell (p := ⟨bw, 0, none⟩) hlw).trans cw0; go_simp) (hK _ _ (Below.refl _ _) hC rfl)
          refine .cons (StepOp.late (.yes 7 true 30 rfl rfl (fun x w1 hC hd => by have d : x 7 = .bool true := hd.get 7 rfl; show some (x 7) = _; rw [d]) fun x w1 hC hd K hK => ?_)) ?_
          · exact wp_value (v := (.int .i64 (j : Int) : Value)) (by have c1 := (hC.cell (p := ⟨q, 0, none⟩) hln).trans cn; go_simp) (hK _ _ (Below.refl _ _) hC rfl)
          refine .cons (StepOp.late (.yes 7 true 30 rfl rfl (fun x w1 hC hd => by have d : x 7 = .bool true := hd.get 7 rfl; show some (x 7) = _; rw [d]) fun x w1 hC hd K hK => ?_)) ?_
          · have d9 : x 9 = (.slice (some ⟨b2, o2, none⟩) ll cw : Value) := hd.get 9 rfl
            have d10 : x 10 = (.int .i64 (j : Int) : Value) := hd.get 10 rfl
            dsimp only at hK ⊢
            rw [d9, d10] at hK ⊢
            exact wp_value (v := (.pointer (some ⟨b2, o2 + j * 3, none⟩) : Value)) (by go_simp) (hK _ _ (Below.refl _ _) hC rfl)
          refine .cons (StepOp.late (.yes 7 true 30 rfl rfl (fun x w1 hC hd => by have d : x 7 = .bool true := hd.get 7 rfl; show some (x 7) = _; rw [d]) fun x w1 hC hd K hK => ?_)) ?_
          · have d11 : x 11 = (.pointer (some ⟨b2, o2 + j * 3, none⟩) : Value) := hd.get 11 rfl
            dsimp only at hK ⊢
            rw [d11] at hK ⊢
            exact wp_value (v := (.agg #[.int .i64 (kk : Int), .int .i64 (N : Int), .slice At n ct] : Value)) (exec_load_mid 33 (.tmp 34) rfl b2 (o2 + j * 3) rfl [.int .i64 (kk : Int), .int .i64 (N : Int), .slice At n ct] _ (HRg.out w1 hC) Try.underlying33 rfl info_item) (hK _ _ (Below.refl _ _) hC rfl)
          refine .cons (StepOp.late (.yes 7 true 30 rfl rfl (fun x w1 hC hd => by have d : x 7 = .bool true := hd.get 7 rfl; show some (x 7) = _; rw [d]) fun x w1 hC hd K hK => ?_)) ?_
          · have d8 : x 8 = (.agg #[.int .i64 (kk : Int), .int .i64 (N : Int), .slice A1 n cB] : Value) := hd.get 8 rfl
            have d12 : x 12 = (.agg #[.int .i64 (kk : Int), .int .i64 (N : Int), .slice At n ct] : Value) := hd.get 12 rfl
            dsimp only at hK ⊢
            rw [d8, d12] at hK ⊢
            exact wp_called (f := 16) (args := #[.agg #[.int .i64 (kk : Int), .int .i64 (N : Int), .slice A1 n cB], .agg #[.int .i64 (kk : Int), .int .i64 (N : Int), .slice At n ct]]) (exec_call 16 _ rfl _ rfl rfl #[.agg #[.int .i64 (kk : Int), .int .i64 (N : Int), .slice A1 n cB], .agg #[.int .i64 (kk : Int), .int .i64 (N : Int), .slice At n ct]] rfl _ Try.func16 (by kernel_rfl) (by kernel_rfl) w1) (HSame.out w1 hC) (fun e w' ⟨he, hb⟩ => ⟨_, he, hK _ _ hb (hC.trans (hb.mono hC.size)) rfl⟩)
          refine .cons (StepOp.late (.plain rfl fun x w1 hC hd K hK => ?_)) ?_
          · have d7 : x 7 = (.bool true : Value) := hd.get 7 rfl
            have d13 : x 13 = (.bool true : Value) := hd.get 13 rfl
            dsimp only at hK ⊢
            rw [d7, d13] at hK ⊢
            exact wp_value (v := (.bool true : Value)) (by rfl) (hK _ _ (Below.refl _ _) hC rfl)
          exact .nil
        case xfin =>
          intro x w9 hC hΦ hx K hK
          have d : x 14 = (.bool true : Value) := hΦ 14 (by decide)
          dsimp only at hK ⊢
          rw [d] at hK ⊢
          rw [if_pos (show Region.wanted _ _ = true from rfl)]
          have c1 := (hC.cell (p := ⟨q + 1, 0, none⟩) hlo).trans co
          have f1 := (hC.frozen (p := ⟨q + 1, 0, none⟩) hlo).trans fo
          clear hΦ d
          unfold Oper.wp
          go_simp
          refine hK undef _ ?_
          clear hK K
          dsimp only [Act.put]
          have h10o := heap_setCell_same w9 (q + 1) 0 _ _ (.bool true) ((hC.block _ hlo).trans ho2)
          have h10n := (heap_setCell_other w9 ⟨q + 1, 0, none⟩ q (.bool true) (by simp)).trans ((hC.block _ hln).trans hn2)
          have h10x := (heap_setCell_other w9 ⟨q + 1, 0, none⟩ bx (.bool true) (by have := HP.out.2.2.2.2.2.2.2.2.2.2.2.2.1; have := hbx; have := HP.out.1.size; have := HQS.out; simp; omega)).trans ((hC.block _ (by have := HP.out.2.2.2.2.2.2.2.2.2.2.2.2.1; omega)).trans hx9)
          have hs10 : (w9.setCell ⟨q + 1, 0, none⟩ (.bool true)).heap.size = w9.heap.size := by simp [World.setCell]
          have hk10 : Kp (fun k => k ≠ q + 1) w2 (w9.setCell ⟨q + 1, 0, none⟩ (.bool true)) := (Kp.of_below hC (fun k hk _ => hk)).setCell (p := ⟨q + 1, 0, none⟩) (by simp) _
          generalize w9.setCell ⟨q + 1, 0, none⟩ (.bool true) = w10 at *
          have cn10 := cell_of_row w10 q 0 _ _ _ h10n
          have fn10 := frozen_of_row w10 q 0 _ _ h10n
          have h11n := heap_setCell_same w10 q 0 _ _ (.int .i64 ((j : Int) + 1)) h10n
          have h11o := (heap_setCell_other w10 ⟨q, 0, none⟩ (q + 1) (.int .i64 ((j : Int) + 1)) (by simp)).trans h10o
          have h11x := (heap_setCell_other w10 ⟨q, 0, none⟩ bx (.int .i64 ((j : Int) + 1)) (by have := HP.out.2.2.2.2.2.2.2.2.2.2.2.2.1; have := hbx; have := HP.out.1.size; have := HQS.out; simp; omega)).trans h10x
          have hk11 : Kp (fun k => k ≠ q + 1 ∧ k ≠ q) w2 (w10.setCell ⟨q, 0, none⟩ (.int .i64 ((j : Int) + 1))) := (hk10.weak (fun k _ h => h.1)).setCell (p := ⟨q, 0, none⟩) (by simp) _
          obtain ⟨w11, hw11⟩ : ∃ w11, w10.setCell ⟨q, 0, none⟩ (.int .i64 ((j : Int) + 1)) = w11 := ⟨_, rfl⟩
          rw [hw11] at h11n h11o h11x hk11
          have cx11 := cell_of_row w11 bx 2 _ _ _ h11x
          have HK11 := Lib.hid (And.intro h11n (And.intro h11o (And.intro h11x hk11)))
          have hj60 : (j : Int) ≤ 60 := by omega
          clear h10o h10n h10x hs10 hk10 h11n h11o h11x hk11 c1 f1 hC hx co fo cn fn cw0 ho2 hn2 hx9 HSame HRg
          have hst : Hid (RowB w11 A1 bs ∧ Rd w11 g A2 c2 zs ∧ (∀ a, A1 = some a → a.block ≠ g ∧ (0 < n → a.block ≠ bx) ∧ a.block ≠ q ∧ a.block ≠ q + 1) ∧ bs.length = n ∧ Ahead A1 n A2 zs ∧ n ≤ 9223372036854775807 ∧ w11.heap[bx]? = some (.cells #[.int .i64 (kk : Int), .int .i64 (N : Int), .slice A1 n cB] 33 (0, 0))) := Lib.hid (by
            obtain ⟨hkp, hb1, hrd2, hsb2, hA1, hah, ht, htk, hrest, hend2, hn, hb12, hs2, hnx⟩ := HP.out
            obtain ⟨h11n, h11o, h11x, hk11⟩ := HK11.out
            obtain ⟨hrdq, hsbq, hatq, -⟩ := HR.out
            have hqs := HQS.out
            have hsz1 := hkp.size
            have hapart : ∀ a, A1 = some a → a.block ≠ g ∧ a.block ≠ q ∧ a.block ≠ q + 1 := fun a ha => by
              obtain ⟨h1, h2⟩ := hA1 a ha
              refine ⟨h1, ?_⟩
              rcases h2 with ⟨p, hp, e⟩ | h2
              · obtain ⟨p', hp', e'⟩ := hsbq p hp
                have := hA p' hp'
                omega
              · omega
            have hapart2 : ∀ a, A2 = some a → a.block ≠ q ∧ a.block ≠ q + 1 := fun a ha => by
              obtain ⟨p, hp, e⟩ := hsb2 a ha
              obtain ⟨p', hp', e'⟩ := hsbq p hp
              have := hA p' hp'
              omega
            have hb12' : Below w1.heap.size w1 w2 := by rw [hbx]; exact hb12
            have hr1 : RowB w2 A1 bs := hb1.move (fun a _ hl => hb12'.block _ hl)
            have hr2 := hrd2.below hb12'
            refine ⟨hr1.move (fun a ha hl => hk11.block _ hl ⟨(hapart a ha).2.2, (hapart a ha).2.1⟩), hr2.move hk11.size (hk11.block _ (Array.getElem?_eq_some_iff.1 hr2.cell).1 ⟨by omega, by omega⟩) (fun a ha hl => hk11.block _ hl ⟨(hapart2 a ha).2, (hapart2 a ha).1⟩), fun a ha => ⟨(hapart a ha).1, ?_, (hapart a ha).2⟩, hn, by rw [← hn]; exact hah, ?_, h11x⟩
            · intro h0 e
              obtain ⟨b', off', cur, T, fr, e', hb', _⟩ := hb1.blk (by omega)
              rw [ha] at e'
              cases e'
              have := (Array.getElem?_eq_some_iff.1 hb').1
              have e2 : b' = bx := e
              omega
            · have := nextT_len hnx
              have := hrdq.cap
              have := hrdq.big
              omega)
          have HO11 : Hid (w11.os = w0.os ∧ w11.tape = w0.tape ∧ w11.output = w0.output) := Lib.hid (by
            obtain ⟨hkp, hb1, hrd2, hsb2, hA1, hah, ht, htk, hrest, hend2, hn, hb12, hs2, hnx⟩ := HP.out
            obtain ⟨h11n, h11o, h11x, hk11⟩ := HK11.out
            have hb := HR.out.2.2.1.below
            exact ⟨hk11.os.trans (hb12.os.trans (hkp.os.trans hb.os)), hk11.tape.trans (hb12.tape.trans (hkp.tape.trans hb.tape)), hk11.output.trans (hb12.output.trans (hkp.output.trans hb.output))⟩)
          go_wp2
          clear hw11 cn10 fn10 cx11
          go_loopg [10, 43] n (fun gk' s10 s43 wx => ∃ (i : Nat) (bs' : List Nat), i + gk' = n ∧ s43 = .int .i64 (i : Int) ∧ bs'.length = n ∧ RowB wx A1 bs' ∧ Rd wx g A2 c2 zs ∧ wx.heap[bx]? = some (.cells #[.int .i64 (kk : Int), .int .i64 (N : Int), .slice A1 n cB] 33 (0, 0)) ∧ Kp (fun k => ∀ a, A1 = some a → a.block ≠ k) w11 wx)
          case atStart => exact ⟨0, bs, by omega, rfl, hst.out.2.2.2.1, hst.out.1, hst.out.2.1, hst.out.2.2.2.2.2.2, Kp.refl _ _⟩
          case round =>
            obtain ⟨i, bs', hig, rfl, hbl, hrow, hrdx, hxx, hkx⟩ := hrel
            cases gk with
            | zero =>
              obtain rfl : i = n := by omega
              have hkz : ¬ ((i : Int) < (i : Int)) := by omega
              have HE := Lib.hid (And.intro hbl (And.intro hrow (And.intro hrdx (And.intro hxx hkx))))
              clear hbl hrow hrdx hxx hkx
              go_wp2
              go_roundg gj
              case measure => omega
              case rel =>
                obtain ⟨hkp, hb1, hrd2, hsb2, hA1, hah, ht, htk, hrest, hend2, hn, hb12, hs2, hnx⟩ := HP.out
                obtain ⟨h11n, h11o, h11x, hk11⟩ := HK11.out
                obtain ⟨hrdq, hsbq, hatq, hits, hend, hsz, hkeep, hjg, hjl⟩ := HR.out
                obtain ⟨_, hrow, hrdx, _, hkx⟩ := HE.out
                have hq0 := HX.out.2.2.1
                have hap := hst.out.2.2.1
                have hqs := HQS.out
                have hsz1 := hkp.size
                have hs11 := hk11.size
                have hchain : ∀ k, k < wo.heap.size → k ≠ g → k ≠ q → k ≠ q + 1 → (∀ a, A1 = some a → a.block ≠ k) → wr.heap[k]? = wo.heap[k]? := fun k h1 h2 h3 h4 h5 =>
                  (hkx.block k (by omega) h5).trans ((hk11.block k (by omega) ⟨h4, h3⟩).trans ((hb12.block k (by omega)).trans (hkp.block k h1 h2)))
                have hA1q : ∀ a, A1 = some a → q + 2 ≤ a.block := fun a ha => by
                  obtain ⟨_, h2⟩ := hA1 a ha
                  rcases h2 with ⟨p, hp, e⟩ | h2
                  · obtain ⟨p', hp', e'⟩ := hsbq p hp
                    have := hA p' hp'
                    omega
                  · omega
                have hat : AnyAt w0 (j + 1) wr := by
                  refine ⟨?_, ?_, hatq.below.trans ⟨hkx.os.trans (hk11.os.trans (hb12.os.trans hkp.os)), hkx.tape.trans (hk11.tape.trans (hb12.tape.trans hkp.tape)), hkx.output.trans (hk11.output.trans (hb12.output.trans hkp.output)), ?_, fun k hk => ?_⟩⟩
                  · rw [hq0]
                    exact (hkx.block _ (by omega) (fun a ha => by have := hA1q a ha; omega)).trans h11n
                  · rw [hq0]
                    exact (hkx.block _ (by omega) (fun a ha => by have := hA1q a ha; omega)).trans h11o
                  · have := hkx.size; omega
                  · exact hchain k (by omega) (by omega) (by omega) (by omega) (fun a ha => by have := hA1q a ha; omega)
                refine ⟨j + 1, zs, A2, c2, by omega, by go_num, hrdx, hsbq.trans hsb2, hat, hrest, by have := HLL.out; omega, hend2, by have := hkx.size; omega, fun k h1 h2 h3 h4 => ?_⟩
                refine (hchain k (by omega) h3 (by omega) (by omega) (fun a ha => ?_)).trans (hkeep k h1 h2 h3 h4)
                obtain ⟨_, h5⟩ := hA1 a ha
                rcases h5 with ⟨p, hp, e⟩ | h5
                · obtain ⟨p', hp', e'⟩ := hsbq p hp
                  have := h4 p' hp'
                  omega
                · omega
            | succ gk' =>
              have hlti : (i : Int) < (n : Int) := by omega
              obtain ⟨b1, o1, e1, ci, fi⟩ := hrow.cellAt i (by omega)
              have hn0 : 0 < n := by omega
              have hne := hst.out.2.2.1 _ e1
              have hpk := hst.out.2.2.2.2.1
              have hx256 : bs'[i]?.getD 0 < 256 := getD_lt hrow.lt i
              have hy256 : bs'[i]?.getD 0 ^^^ 255 < 256 := Nat.xor_lt_two_pow (n := 8) hx256 (by decide)
              have hxr : bits .xor .u8 ((bs'[i]?.getD 0 : Nat) : Int) 255 = ((bs'[i]?.getD 0 ^^^ 255 : Nat) : Int) := u8_xor_nat (bs'[i]?.getD 0) 255 hx256 (by decide)
              have cx := cell_of_row wr bx 2 _ _ _ hxx
              have hrow2 := hrow.set e1 (i := i) (v := bs'[i]?.getD 0 ^^^ 255) (by omega) hy256
              have hrd2 := hrdx.poke (p := ⟨b1, o1 + i, none⟩) hne.1 (by
                rcases hpk with h | h
                · exact .inl h
                · right
                  intro a ha hb
                  have h2 := h ⟨b1, o1, none⟩ a e1 ha hb.symm
                  show o1 + i < a.off
                  have h3 : o1 + n ≤ a.off := h2
                  omega) rfl (.int .u8 ((bs'[i]?.getD 0 ^^^ 255 : Nat) : Int))
              have hxx2 := (heap_setCell_other wr ⟨b1, o1 + i, none⟩ bx (.int .u8 ((bs'[i]?.getD 0 ^^^ 255 : Nat) : Int)) (fun e => hne.2.1 hn0 e.symm)).trans hxx
              have hkx2 := hkx.setCell (p := ⟨b1, o1 + i, none⟩) (fun h => h _ e1 rfl) (.int .u8 ((bs'[i]?.getD 0 ^^^ 255 : Nat) : Int))
              have hbl2 : (bs'.set i (bs'[i]?.getD 0 ^^^ 255)).length = n := by simpa using hbl
              have HE := Lib.hid (And.intro hbl2 (And.intro hrow2 (And.intro hrd2 (And.intro hxx2 (And.intro hkx2 hig)))))
              have HE1 := Lib.hid e1
              have hn63 := hst.out.2.2.2.2.2.1
              clear hbl2 hrow2 hrd2 hxx2 hkx2 hbl hrow hrdx hxx hkx hpk hne hig
              subst e1
              generalize bs'[i]?.getD 0 = y at *
              generalize y ^^^ 255 = y2 at *
              go_wp2
              go_roundg gk'
              case measure => omega
              case rel => exact ⟨i + 1, _, by have := HE.out.2.2.2.2.2; omega, by go_num, HE.out.1, HE.out.2.1, HE.out.2.2.1, HE.out.2.2.2.1, HE.out.2.2.2.2.1⟩

end Go.Proofs.Ytbbnmfdhpepdnaa
