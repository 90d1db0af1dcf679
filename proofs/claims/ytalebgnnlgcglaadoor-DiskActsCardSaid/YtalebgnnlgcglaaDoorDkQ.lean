/- The document's Crash, walked. -/
import Derived.Test.YtalebgnnlgcglaaDoorDkN
namespace Go.Proofs.YtalebgnnlgcglaaDoor
open Go Go.RowKit
set_option linter.unusedVariables false
attribute [local go_sem ↓] Go.wp_at_zero Go.wp_at_succ
/-- one element is appended, at a step of a region that draws its order -/
theorem step_pushW {α : Type} {cs : α → List Value} {E T : TypeId} {size B : Nat} {w : World} {v : Value} {xs : List α} {P : Program} {ops : Array Oper} {o : Oper} {a : Act} {K : Act → World → Prop} {Q : Exit → Act → World → Prop} {EE : Prop} (hcs : ∀ x, (cs x).length = size) (hf : ∀ x : α, (cs x).all Value.oneCell' = true) {z : Value} {bytes : Nat} (ht : P.underlying T = some (.slice E))
    (hinf : (P.info? E).map (fun i => (i.zero, i.size, i.bytes)) = some (some z, size, bytes)) (hz : z.cells.size = size) (hbs : bytes ≤ 1000) (hown : OwnS E size cs B w v xs) (x : α) (h63 : xs.length ≤ 100000000) (hbase : B ≤ w.heap.size)
    (hgd : o.guard = none) (s y : Operand) (ho : o.op = .call { callee := .builtin .append, args := #[s, y], argTypes := #[T, T] }) (hs : a.eval s = v)
    (us : Array Value) (e' : TypeId) (c : Nat) (hx : a.eval y = .slice (some ⟨w.heap.size, 0, none⟩) 1 c) (hu : us.toList = cs x)
    (h : ∀ v' w', OwnS E size cs B w' v' (xs ++ [x]) → w.grownBy w' v.ownBlock → NewOrSame w v v' → K (a.put o.dst v') w') :
    if Region.wanted o (yielded ops a.tmps) = true then Oper.wp P o a (w.alloc (.cells us e')) K Q else EE := by
  have hw : Region.wanted o (yielded ops a.tmps) = true := by simp [Region.wanted, hgd]
  rw [if_pos hw]
  obtain ⟨i, hi, hz0, hz1, hz2⟩ := info_parts hinf
  have hul : us.size = size := by rw [← Array.length_toList, hu, hcs]
  have hsrc : Src P size T (.slice (some ⟨w.heap.size, 0, none⟩) 1 c) 1 us.toList (w.alloc (.cells us e')) := by
    refine Src.ofSlice _ ht ⟨w.heap.size, 0, none⟩ 1 c us.toList (by simpa using hul) ?_ (fun u hq => List.all_eq_true.1 (hf x) u (by rw [← hu]; exact hq))
    intro j u hj
    have hadd : (⟨w.heap.size, 0, none⟩ : Addr).add j = ⟨w.heap.size, j, none⟩ := by unfold Addr.add; split <;> simp_all
    rw [hadd, cell_of_row (w.alloc (.cells us e')) w.heap.size j us e' (0, 0) (heap_alloc_new w _)]
    simpa using hj
  have hby : (xs.length + 1) * bytes ≤ 140737488355328 := by
    have := Nat.mul_le_mul (show xs.length + 1 ≤ 100000001 by omega) hbs
    omega
  obtain ⟨v', w', h1, h2, h3, h4, h5⟩ := run_append_src (w.alloc (.cells us e')) B T T o.type E i z size bytes ht hi hz0 hz1 hz2 hz v xs.length (xs.flatMap cs) (World.ownsRow.alloc hown _) _ 1 us.toList hsrc (by unfold maxLen; omega) hby (by simp; omega)
  refine Lib.wp_append_run _ s y T T ho v _ hs hx v' w' h1 (h v' w' ?_ (grownBy_trans (World.grownBy_alloc w _ _) h3) (fun k hk => ?_))
  · unfold OwnS
    rw [hu] at h2
    simpa using h2
  · rcases h4 k hk with h' | h'
    · exact .inl h'
    · exact .inr (by simp at h'; omega)
theorem keepL_yes {wait out : List (Int × List UInt8)} {q : Int} {s : List UInt8} (h : lastO wait q = some s) : keepL wait out q = out ++ [(q, s)] := by unfold keepL; rw [h]
theorem keepL_no {wait out : List (Int × List UInt8)} {q : Int} (h : lastO wait q = none) : keepL wait out q = out := by unfold keepL; rw [h]
theorem tornL_yes {wait out : List (Int × List UInt8)} {q : Int} {b s : List UInt8} (h : lastO wait q = some s) : tornL wait out (q, b) = out ++ [(q, padV b)] := by unfold tornL; rw [h]
theorem tornL_no {wait out : List (Int × List UInt8)} {q : Int} {b : List UInt8} (h : lastO wait q = none) : tornL wait out (q, b) = out := by unfold tornL; rw [h]
theorem keepL_take {wait out : List (Int × List UInt8)} {ks : List Int} {k : Nat} {q : Int} (h : ks[k]? = some q) : (ks.take (k + 1)).foldl (keepL wait) out = keepL wait ((ks.take k).foldl (keepL wait) out) q := by
  rw [List.take_add_one, h, List.foldl_append]; rfl
theorem tornL_take {wait out : List (Int × List UInt8)} {ts : List (Int × List UInt8)} {k : Nat} {t : Int × List UInt8} (h : ts[k]? = some t) : (ts.take (k + 1)).foldl (tornL wait) out = tornL wait ((ts.take k).foldl (tornL wait) out) t := by
  rw [List.take_add_one, h, List.foldl_append]; rfl
set_option maxRecDepth 100000 in
set_option maxHeartbeats 8000000 in
theorem rcrash_any {w : World} {B h N N' : Nat} {d : Dm} (r : Rd2 w B h N d) (hok : d.Ok) (hB : B ≤ w.heap.size) (vk : Value) (ks : List Int) (hk : RowL IV w vk ks) (vt : Value) (ts : List (Int × List UInt8)) (ht : RowS wrC w vt ts)
    (hkb : ∀ k ∈ ks, -9223372036854775808 ≤ k ∧ k ≤ 9223372036854775807) (htb : ∀ t ∈ ts, (-9223372036854775808 ≤ t.1 ∧ t.1 ≤ 9223372036854775807) ∧ t.2.length ≤ 1000000) (hN : N + ks.length + ts.length ≤ N') (hN' : N' ≤ 1000000) :
    Calls Tryd.prog 33 #[.pointer (some ⟨h, 0, none⟩), vk, vt] w fun e w' => e = .returned (.tuple #[]) ∧ Rd2 w' B h N' (crashM d ks ts) ∧ Grew [h] w w' := by
  obtain ⟨m, vd, vw, k, sim, hw64⟩ := r
  obtain ⟨ak, ck, rfl, hkl, -⟩ := hk.shape
  obtain ⟨at', ct, rfl, htl, -⟩ := ht.shape wrC_len
  unfold maxLen at hkl htl
  have c1 := k.cells.cell 1 (v := vd) rfl
  have hhlt := k.cells.lt
  have hlens := k.lens
  have hsm := k.small
  have HSIM := Lib.hid (sim.crash hok ks ts)
  have HKR : Hid (∀ W, Below w.heap.size w W → RowL IV W (.slice ak ks.length ck) ks) := fun W hW => hk.stays hW
  have HTR : Hid (∀ W, Below w.heap.size w W → RowS wrC W (.slice at' ts.length ct) ts) := fun W hW => ht.stays hW
  have HKB := Lib.hid hkb
  have HTB := Lib.hid htb
  have HK : Hid (∀ W, Below w.heap.size w W → Rk W B h N m vd vw) := fun W hW => k.grew (Grew.ofBelow (S := []) hW) (by simp) (by simp) (by simp)
  have how : OwnW w.heap.size (w.alloc (.cells #[] 76)) (.slice (some ⟨w.heap.size, 0, none⟩) 0 0) [] := World.ownsRow_made (base := w.heap.size) (e := 76) (size := 2) w #[] 0 (Nat.le_refl _) (Nat.zero_le _) rfl
  have hba : Below w.heap.size w (w.alloc (.cells #[] 76)) := (Below.refl _ _).alloc (Nat.le_refl _) _
  have hvd : RowS wrC (w.alloc (.cells #[] 76)) vd m.dur := k.dur.row.stays hba
  have HHW := Lib.hid how
  have HVD := Lib.hid hvd
  have HBA := Lib.hid hba
  clear k sim hw64 hok hk ht hkb htb how hba hvd
  go_enter Tryd.func33, Tryd.ntmps33
  go_wp2_with (at_builtin; go_must (refine wpList_appendS wrC_len wrC_one Tryd.underlying46 infoW rfl (by decide) HHW.out HVD.out (by simp; omega) (by have := HBA.out.size; omega) rfl _ _ rfl (by rfl) (by rfl) ?_))
  intro v1 w1 o1 g1 n1 hnil
  clear hnil
  have hbe1 := OwnS.below HHW.out HBA.out g1 HBA.out.size
  clear g1 n1 HHW HVD HBA c1
  go_wp2_with fail
  go_loopw [23, 6] (fun i v wr => ∃ (k : Nat) (cur : List (Int × List UInt8)), k ≤ ks.length ∧ i = .int .i64 k ∧ Hid (cur = (ks.take k).foldl (keepL m.wait) m.dur) ∧ cur.length ≤ m.dur.length + k ∧ OwnW w.heap.size wr v cur ∧ Below w.heap.size w wr) (fun i _ _ => ks.length - (intOf i).toNat)
  case atStart => exact ⟨0, m.dur, Nat.zero_le _, rfl, rfl, Nat.le_refl _, o1, hbe1⟩
  case round =>
    clear o1 hbe1
    obtain ⟨k, cur, hk, rfl, HC, hcl, ho, hbe⟩ := hrel
    by_cases hlt : k < ks.length
    · obtain ⟨q, hq⟩ : ∃ q, ks[k]? = some q := ⟨_, List.getElem?_eq_getElem hlt⟩
      obtain ⟨_, _, hv, -, hin⟩ := (HKR.out wr hbe).shape
      cases hv
      obtain ⟨bb, oo, rfl, hc⟩ := hin k _ hq
      replace hc : wr.cell? ⟨bb, oo + k, none⟩ = some (.int .i64 q) := hc
      obtain ⟨hq1, hq2⟩ := HKB.out q (List.mem_of_getElem? hq)
      have HKT := Lib.hid (keepL_take (wait := m.wait) (out := m.dur) hq)
      have kk := HK.out wr hbe
      have c2 := kk.cells.cell 2 (v := vw) rfl
      have hL := rlast_any vw m.wait q wr kk.wait.row (by omega)
      have hs0 := hbe.size
      clear hin hq
      cases hw : lastO m.wait q with
      | some s =>
        rw [hw] at hL
        have HL : Hid (Calls Tryd.prog 21 #[vw, .int .i64 q] wr fun e w' => e = .returned (.tuple #[.string (strB s), .bool true]) ∧ wr = w') := hL
        have HKM := Lib.hid (keepL_yes (out := cur) hw)
        have hcl2 : cur.length ≤ 100000000 := by omega
        clear hL hw kk
        go_wp2_with fail
        refine HL.out.mono ?_
        rintro e w2 ⟨rfl, rfl⟩
        go_wp2_with (at_builtin; go_must (refine wpList_pushS wrC_len wrC_one Tryd.underlying46 infoW rfl (by decide) ho (q, s) hcl2 hs0 rfl _ _ rfl (by rfl) _ _ _ (by rfl) (by rfl) ?_))
        intro v2 w2 o2 g2 n2
        have hbe2 := OwnS.below ho hbe g2 hs0
        clear ho g2 n2 hbe HL c2 hc
        go_wp2_with fail
        go_roundw
        case rel =>
          refine ⟨k + 1, cur ++ [(q, s)], by omega, by go_num, ?_, by simp; omega, o2, hbe2⟩
          show _ = _
          rw [HKT.out, ← HC.out, HKM.out]
        case measure => simp [intOf]; omega
      | none =>
        rw [hw] at hL
        have HL : Hid (Calls Tryd.prog 21 #[vw, .int .i64 q] wr fun e w' => e = .returned (.tuple #[.string (strB zero64), .bool false]) ∧ wr = w') := hL
        have HKM := Lib.hid (keepL_no (out := cur) hw)
        clear hL hw kk
        go_wp2_with fail
        refine HL.out.mono ?_
        rintro e w2 ⟨rfl, rfl⟩
        go_wp2_with fail
        go_roundw
        case rel =>
          refine ⟨k + 1, cur, by omega, by go_num, ?_, by omega, ho, hbe⟩
          show _ = _
          rw [HKT.out, ← HC.out, HKM.out]
        case measure => simp [intOf]; omega
    · obtain rfl : k = ks.length := by omega
      have hcK : cur = ks.foldl (keepL m.wait) m.dur := by have := HC.out; rw [List.take_length] at this; exact this
      obtain ⟨K0, hK0⟩ : ∃ K0, K0 = ks.foldl (keepL m.wait) m.dur := ⟨_, rfl⟩
      rw [← hK0] at hcK HSIM
      have hcl2 := hcl
      clear HC
      go_wp2_with fail
      go_loopw [46, 6] (fun i v wr => ∃ (k : Nat) (cur : List (Int × List UInt8)), k ≤ ts.length ∧ i = .int .i64 k ∧ Hid (cur = (ts.take k).foldl (tornL m.wait) K0) ∧ cur.length ≤ m.dur.length + ks.length + k ∧ OwnW w.heap.size wr v cur ∧ Below w.heap.size w wr) (fun i _ _ => ts.length - (intOf i).toNat)
      case atStart => exact ⟨0, cur, Nat.zero_le _, rfl, hcK, by omega, ho, hbe⟩
      case round =>
        clear hcK hcl hcl2 ho hbe cur hK0
        obtain ⟨k, cur, hk, rfl, HC, hcl, ho, hbe⟩ := hrel
        by_cases hlt : k < ts.length
        · obtain ⟨⟨q, bs⟩, hp⟩ : ∃ q, ts[k]? = some q := ⟨_, List.getElem?_eq_getElem hlt⟩
          obtain ⟨_, _, hv, -, hin⟩ := (HTR.out wr hbe).shape wrC_len
          simp only [Value.slice.injEq] at hv
          obtain ⟨rfl, -, -⟩ := hv
          obtain ⟨bb, oo, rfl, hc⟩ := hin k _ hp
          have e0 : wr.cell? ⟨bb, oo + (k * 2 + 0), none⟩ = some (.int .i64 q) := hc 0 _ rfl
          have e1 : wr.cell? ⟨bb, oo + (k * 2 + 1), none⟩ = some (.string (strB bs)) := hc 1 _ rfl
          rw [Nat.add_zero] at e0
          rw [← Nat.add_assoc] at e1
          obtain ⟨⟨hq1, hq2⟩, hbl⟩ := HTB.out _ (List.mem_of_getElem? hp)
          replace hq1 : -9223372036854775808 ≤ q := hq1
          replace hq2 : q ≤ 9223372036854775807 := hq2
          replace hbl : bs.length ≤ 1000000 := hbl
          have HKT := Lib.hid (tornL_take (wait := m.wait) (out := K0) hp)
          obtain ⟨W1, hW1⟩ : ∃ W, W = wr.alloc (.cells #[.int .i64 q, .string (strB bs)] 76) := ⟨_, rfl⟩
          have hbA : Below wr.heap.size wr W1 := by rw [hW1]; exact (Below.refl _ _).alloc (Nat.le_refl _) _
          have hcT : CellsAt W1 wr.heap.size 76 #[.int .i64 q, .string (strB bs)] := by rw [hW1]; exact CellsAt.new wr _ _
          have hbe1 := hbe.trans (hbA.mono hbe.size)
          have ho1 := ho.stays hbA
          obtain ⟨P1, hP1⟩ : ∃ P, P = wr.heap.size := ⟨_, rfl⟩
          rw [← hP1] at hcT
          have hlt1 := hcT.lt
          have HP1 := Lib.hid hP1
          have HW1 := Lib.hid hW1
          have kk := HK.out W1 hbe1
          have c2 := kk.cells.cell 2 (v := vw) rfl
          have t0 := hcT.cell 0 (v := .int .i64 q) rfl
          have t1 := hcT.cell 1 (v := .string (strB bs)) rfl
          have hbq : ∀ n, Below W1.heap.size W1 (W1.drewN n) := fun n => ⟨rfl, rfl, rfl, Nat.le_refl _, fun _ _ => rfl⟩
          have hL := fun n => (rlast_any vw m.wait q (W1.drewN n) (kk.wait.row.stays (hbq n)) (by omega)).mono (fun e w' (hh : _ ∧ _) => (⟨hh.1, hh.2.symm⟩ : e = .returned (lastR (lastO m.wait q)) ∧ w' = W1.drewN n))
          clear hin hp hc hW1 hP1 hbA ho hbe hbq
          go_upto_region 11 with (fail)
          clear e0 e1
          rw [← HW1.out, ← HP1.out]
          cases hw : lastO m.wait q with
          | some s =>
            rw [hw] at hL
            have HL : Hid (∀ n, Calls Tryd.prog 21 #[vw, .int .i64 q] (W1.drewN n) fun e w' => e = .returned (.tuple #[.string (strB s), .bool true]) ∧ w' = W1.drewN n) := hL
            have HKM := Lib.hid (tornL_yes (out := cur) (b := bs) hw)
            clear hL hw kk
            go_quiet ((go_at_call 21; exact Calls.quiet_of_same (HL.out _)))
            go_wp2_with fail
            obtain ⟨W4, hW4⟩ : ∃ W, W = W1.drewN nq := ⟨_, rfl⟩
            have hb4 : Below W1.heap.size W1 W4 := by rw [hW4]; exact below_drewQ (Below.refl _ _)
            rw [← hW4]
            clear hW4
            have hbe4 := hbe1.trans (hb4.mono hbe1.size)
            have hoD : OwnW w.heap.size W4.drew u6 cur := (ho1.stays hb4).stays (Below.refl _ _).drew
            have hcT4 := hcT.stays hb4
            have t0 := hcT4.cell 0 (v := .int .i64 q) rfl
            have t1 := hcT4.cell 1 (v := .string (strB bs)) rfl
            have HPD : Hid (∀ W, Calls Tryd.prog 36 #[.string (strB bs)] W fun e w' => e = .returned (.string (strB (padV bs))) ∧ W = w') := fun W => rpad_any bs W hbl
            have hs4 : w.heap.size ≤ W4.drew.heap.size := hbe4.size
            have hcl3 : cur.length ≤ 100000000 := by omega
            clear hb4 hcT4 hcT ho1 HL c2
            go_region_law ((first
              | (go_simp; go_at_call 36; (with_reducible refine (HPD.out _).mono ?_); rintro e w5 ⟨rfl, rfl⟩)
              | (refine step_pushW wrC_len wrC_one Tryd.underlying46 infoW rfl (by decide) hoD (q, padV bs) hcl3 hs4 rfl _ _ rfl (by rfl) _ _ _ (by rfl) (by rfl) ?_; intro v6 w6 o6 g6 n6; have hbe6 := OwnS.below hoD (hbe4.drew) g6 hs4)))
            all_goals go_wp2_with fail
            all_goals go_roundw
            all_goals first
              | (refine ⟨k + 1, cur ++ [(q, padV bs)], by omega, by go_num, ?_, by simp; omega, o6, hbe6⟩
                 show _ = _
                 rw [HKT.out, ← HC.out, HKM.out])
              | (simp [intOf]; omega)
          | none =>
            rw [hw] at hL
            have HL : Hid (∀ n, Calls Tryd.prog 21 #[vw, .int .i64 q] (W1.drewN n) fun e w' => e = .returned (.tuple #[.string (strB zero64), .bool false]) ∧ w' = W1.drewN n) := hL
            have HKM := Lib.hid (tornL_no (out := cur) (b := bs) hw)
            clear hL hw kk
            go_quiet ((go_at_call 21; exact Calls.quiet_of_same (HL.out _)))
            go_wp2_with fail
            refine ⟨⟨k + 1, cur, by omega, by go_num, ?_, by omega, ho1.stays (below_drewQ (Below.refl _ _)), below_drewQ hbe1⟩, by simp [intOf]; omega⟩
            show _ = _
            rw [HKT.out, ← HC.out, HKM.out]
        · obtain rfl : k = ts.length := by omega
          have hcT : cur = ts.foldl (tornL m.wait) K0 := by have := HC.out; rw [List.take_length] at this; exact this
          have kk := HK.out wr hbe
          have c1 := kk.cells.cell 1 (v := vd) rfl
          have c2 := kk.cells.cell 2 (v := vw) rfl
          have c3 := kk.cells.cell 3 (v := .int .i64 m.fuse) rfl
          have f1 := kk.cells.free 1
          have f2 := kk.cells.free 2
          have f3 := kk.cells.free 3
          obtain ⟨a6, c6, rfl, -, -⟩ := ho.row.shape wrC_len
          rw [← hcT] at HSIM
          have HKK := Lib.hid kk
          have HO := Lib.hid ho
          clear hcT HC kk ho
          go_wp2_with fail
          have hRk : Rk (((wr.setCell ⟨h, 1, none⟩ (.slice a6 cur.length c6)).setCell ⟨h, 2, none⟩ (.slice none 0 0)).setCell ⟨h, 3, none⟩ (.int .i64 (-1))) B h N' { m with dur := cur, wait := [], fuse := -1 } (.slice a6 cur.length c6) (.slice none 0 0) :=
            ⟨((HKK.out.cells.set 1 _).set 2 _).set 3 _, OwnW.setH (OwnW.setH (OwnW.setH (HO.out.mono hB) HKK.out.cells 1 _) (HKK.out.cells.set 1 _) 2 _) ((HKK.out.cells.set 1 _).set 2 _) 3 _, OwnS.nil _ _, by simp; omega, hN'⟩
          have hG : Grew [h] w (((wr.setCell ⟨h, 1, none⟩ (.slice a6 cur.length c6)).setCell ⟨h, 2, none⟩ (.slice none 0 0)).setCell ⟨h, 3, none⟩ (.int .i64 (-1))) := (((Grew.ofBelow (S := [h]) hbe).setCell (p := ⟨h, 1, none⟩) (.inl (by simp)) _).setCell (p := ⟨h, 2, none⟩) (.inl (by simp)) _).setCell (p := ⟨h, 3, none⟩) (.inl (by simp)) _
          go_end0
          exact ⟨rfl, ⟨_, _, _, hRk, HSIM.out, fun p hp => by cases hp⟩, hG⟩
end Go.Proofs.YtalebgnnlgcglaaDoor
