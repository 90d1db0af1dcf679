/- The walk of DiskStays: what is durable stays. -/
import Derived.Test.YtalebgnnlgcglaaDoorAlive31
import Derived.Test.YtalebgnnlgcglaaDoorAcO
import Derived.BigQuiet
import Derived.Deep.CutBlock
import Derived.Deep.DeepCutAuto
namespace Go.Proofs.YtalebgnnlgcglaaDoor
open Go Go.RowKit
set_option linter.unusedVariables false
theorem syncM_wr (d : Dm) : (syncM d).writes = d.writes := by unfold syncM; split <;> rfl
theorem infoT : (Tryd.prog.info? 40).map (fun i => (i.zero, i.size, i.bytes)) = some (some (.agg #[.int .i64 0, .slice none 0 0]), 2, 32) := by kernel_rfl
theorem wpList_pushX {α : Type} {cs : α → List Value} {E T : TypeId} {size B : Nat} {w : World} {v : Value} {xs : List α} {P : Program} {ops : Array Oper} {rest : List Oper} {o : Oper} {a : Act} {Q : Exit → Act → World → Prop} (hcs : ∀ x, (cs x).length = size) {z : Value} {bytes : Nat} (ht : P.underlying T = some (.slice E))
    (hinf : (P.info? E).map (fun i => (i.zero, i.size, i.bytes)) = some (some z, size, bytes)) (hz : z.cells.size = size) (hbs : bytes ≤ 1000) (hown : OwnS E size cs B w v xs) (x : α) (hf : (cs x).all Value.oneCell' = true) (h63 : xs.length ≤ 100000000) (hbase : B ≤ w.heap.size)
    (hgd : o.guard = none) (s y : Operand) (ho : o.op = .call { callee := .builtin .append, args := #[s, y], argTypes := #[T, T] }) (hs : a.eval s = v)
    (us : Array Value) (e' : TypeId) (c : Nat) (hx : a.eval y = .slice (some ⟨w.heap.size, 0, none⟩) 1 c) (hu : us.toList = cs x)
    (h : ∀ v' w', OwnS E size cs B w' v' (xs ++ [x]) → w.grownBy w' v.ownBlock → NewOrSame w v v' → wpList P ops Q rest (a.put o.dst v') w') :
    wpList P ops Q (o :: rest) a (w.alloc (.cells us e')) := by
  have hul : us.size = size := by rw [← Array.length_toList, hu, hcs]
  refine wpList_push hgd s y T ho B E z size bytes ht hinf hz v xs.length (xs.flatMap cs) hs hown us e' c hx hul (by rw [hu]; exact hf) (by unfold maxLen; omega) ?_ hbase (fun v' w' h1 h2 h3 => h v' w' ?_ h2 h3)
  · have := Nat.mul_le_mul (show xs.length + 1 ≤ 100000001 by omega) hbs
    omega
  · unfold OwnS
    rw [hu] at h1
    simpa using h1
set_option maxRecDepth 100000 in
set_option maxHeartbeats 8000000 in
theorem walkDiskStays (w : World) (vb : Value) (B : List UInt8) (hrb : RowB w vb B) (vl : Value) (ls : List Ac) (hrl : RowS acC w vl ls) (hgood : ∀ x ∈ ls, acG w x) (ea : Nat → Addr) (er1 : ErrAt w 0 (ea 1)) (er3 : ErrAt w 1 (ea 3)) (er17 : ErrAt w 2 (ea 17)) :
    Calls Tryd.prog 3 #[vb, vl] w fun e w' => e = .returned (.bool true) ∧ Below w.heap.size w w' := by
  obtain ⟨ba, bc, rfl, hbl, -⟩ := hrb.gen.shape
  obtain ⟨al, cl, rfl, hll, -⟩ := RowS.shape hrl acC_len
  unfold maxLen at hbl hll
  have HA := Lib.hid (alive31 ea w er1 er3 er17)
  have HE1 : Hid (∀ W, Below w.heap.size w W → ErrAt W 0 (ea 1)) := fun W hW => er1.stays hW
  have HE3 : Hid (∀ W, Below w.heap.size w W → ErrAt W 1 (ea 3)) := fun W hW => er3.stays hW
  have HE17 : Hid (∀ W, Below w.heap.size w W → ErrAt W 2 (ea 17)) := fun W hW => er17.stays hW
  have HRB : Hid (∀ W, Below w.heap.size w W → RowB W (.slice ba B.length bc) B) := fun W hW => hrb.stays hW
  have HRL : Hid (∀ W, Below w.heap.size w W → RowS acC W (.slice al ls.length cl) ls) := fun W hW => hrl.stays hW
  have HG : Hid (∀ x ∈ ls, acG w x) := hgood
  have HL : Hid (∀ W, Below w.heap.size w W → Calls Tryd.prog 6 #[.slice al ls.length cl] W (LongP ls W)) := fun W hW => long_any W _ ls (hrl.stays hW) (fun x hx => by
    obtain ⟨h1, h2, h3, ⟨h4, h5⟩, h6, h7⟩ := hgood x hx
    exact ⟨h1, h2, h3.stays hW, ⟨h4.stays hW, h5⟩, h6.stays hW, h7⟩)
  clear er1 er3 er17 hrb hrl hgood
  go_enter Tryd.func3, Tryd.ntmps3
  go_wp2_with fail
  refine HA.out.mono ?_
  rintro e w1 ⟨rfl, hb1⟩
  have HL1 := Lib.hid (HL.out w1 hb1)
  have HB1 := Lib.hid hb1
  clear HA HL hb1
  go_wp2_with fail
  refine HL1.out.mono ?_
  rintro e w2 ⟨b, rfl, hsm, hb2⟩
  have hbe2 := HB1.out.trans (hb2.mono HB1.out.size)
  clear HL1 HB1 hb2
  cases b with
  | true =>
    go_wp2_with fail
    go_ret
    exact ⟨rfl, hbe2⟩
  | false =>
    obtain ⟨hl40, hsm⟩ := hsm rfl
    have HSM : Hid (∀ x ∈ ls, acS x) := hsm
    clear hsm
    by_cases h64 : 64 < B.length
    · go_wp2_with fail
      go_ret
      exact ⟨rfl, hbe2⟩
    · have HN := Lib.hid (new_ok 8 w2 (by decide) (by decide))
      rw [show (((8 : Nat) : Int)) = 8 from rfl] at HN
      have HB2 := Lib.hid hbe2
      clear hbe2
      go_wp2_with fail
      refine HN.out.mono ?_
      rintro e w3 ⟨g, gd, gm, rfl, hk3, hg1, hg2, hg3, hb3⟩
      have hbe3 := HB2.out.trans (hb3.mono HB2.out.size)
      have HGS : Hid (w.heap.size ≤ g ∧ w.heap.size ≤ gd ∧ w.heap.size ≤ gm) := by have := HB2.out.size; exact ⟨by omega, by omega, by omega⟩
      have HGR : Hid (∀ W, Grew [g, gd, gm] w3 W → Below w.heap.size w W) := fun W hW => hW.below hbe3 (by intro i hi; have := HGS.out; simp at hi; omega) hbe3.size
      obtain ⟨sw, ss, hst⟩ := stay_first B (by omega)
      have hW := write_any ea hk3 (x := 3) (by decide) (by decide) _ B (HRB.out w3 hbe3) (by omega) (by decide) (HE1.out _ hbe3) (HE3.out _ hbe3) (HE17.out _ hbe3)
      rw [sw, EV_zero] at hW
      have HW := Lib.hid hW
      have HSS := Lib.hid ss
      have HST := Lib.hid hst
      have HWR : Hid ((syncM (writeM (Dm.new 8) 3 B)).writes ≤ 1) := by
        show _ ≤ _
        unfold syncM
        have h1 := writeM_writes (Dm.new 8) 3 B
        have h0 : (Dm.new 8).writes = 0 := rfl
        split
        · omega
        · show (writeM (Dm.new 8) 3 B).writes ≤ 1; omega
      clear HN hk3 hg1 hg2 hg3 hb3 hbe3 sw ss hst hW
      go_wp2_with fail
      refine HW.out.mono ?_
      rintro e w4 ⟨rfl, hk4, hg4⟩
      have hS := sync_any ea hk4 (HE17.out _ (HGR.out w4 hg4))
      rw [HSS.out, EV_zero] at hS
      have HS := Lib.hid hS
      have HG4 := Lib.hid hg4
      clear HW hk4 hg4 hS HSS
      go_wp2_with fail
      refine HS.out.mono ?_
      rintro e w5 ⟨rfl, hk5, hg5⟩
      have hg35 := HG4.out.trans hg5
      generalize syncM (writeM (Dm.new 8) 3 B) = D5 at hk5 HST HWR
      have hbe5 := HGR.out w5 hg35
      have hR := read_any ea hk5 (x := 3) (by decide) (by decide) (HE1.out _ hbe5) (HE17.out _ hbe5)
      rw [HST.out.read.1, HST.out.read.2, EV_zero] at hR
      have HR := Lib.hid hR
      have HK5 := Lib.hid hk5
      have HG35 := Lib.hid hg35
      clear HS HG4 hk5 hg5 hg35 hbe5 hR
      go_wp2_with fail
      refine HR.out.mono ?_
      rintro e w6 ⟨v6, rfl, ho6, hb6⟩
      have hk6 := HK5.out.stays hb6
      have hg36 := HG35.out.add hb6
      have hbe6 := HGR.out w6 hg36
      have hlt5 := HK5.out.lt
      obtain ⟨a6, c6, rfl, hc6, -⟩ := ho6.row.gen.shape
      unfold maxLen at hc6
      have hpl : (padV B).length = 64 := padV_len B
      have HR6 : Hid (∀ W, Grew [g, gd, gm] w6 W → RowB W (.slice a6 64 c6) (padV B)) := fun W hW => by
        have h1 := ho6.row
        rw [hpl] at h1
        refine hW.rowB h1 (fun _ k hk => ?_)
        have h2 := (World.ownsRow.lt ho6 k (by rw [hpl]; exact hk)).1
        simp; omega
      have hto := RowL.to ho6.row.gen B.length (by omega)
      have htk : (padV B).take B.length = B := stay_len (by omega)
      rw [htk] at hto
      have hcap := RowL.cap ho6.row.gen
      have s1 : ∀ n, (convert 22 9 (.slice a6 B.length c6)).run Tryd.prog (w6.drewN n) = .ok (.string (strB B)) (w6.drewN n) := fun n => convert_str (w := w6.drewN n) (v := .slice a6 B.length c6) (RowB.stays hto (below_drewQ (Below.refl _ _)))
      have hbB := HRB.out w6 hbe6
      have s2 : ∀ n, (convert 22 9 (.slice ba B.length bc)).run Tryd.prog (w6.drewN n) = .ok (.string (strB B)) (w6.drewN n) := fun n => convert_str (w := w6.drewN n) (RowB.stays hbB (below_drewQ (Below.refl _ _)))
      have bs2 : ((strB B).toList != (strB B).toList) = false := by simp
      have bs1 : ((strB B).toList == (strB B).toList) = true := by simp
      rw [hpl] at hcap ⊢
      have HK6 := Lib.hid hk6
      have HG36 := Lib.hid hg36
      clear HR HK5 HG35 ho6 hb6 hk6 hg36 hbe6 hlt5 hto htk hbB
      go_wp2_with fail
      go_quiet (fail)
      go_wp2_with fail
      clear s1 s2 bs1 bs2 hcap
      go_loopw [69] (fun i wr => ∃ (k : Nat) (D : Dm), k ≤ ls.length ∧ i = .int .i64 k ∧ Dk wr g gd gm D ∧ Stay (padV B) D ∧ D.writes ≤ 1 + k ∧ Grew [g, gd, gm] w6 wr) (fun i _ => ls.length - (intOf i).toNat)
      case atStart => exact ⟨0, D5, Nat.zero_le _, rfl, HK6.out.stays (below_drewQ (Below.refl _ _)), HST.out, HWR.out, (Grew.refl _ _).drewN _⟩
      case round =>
        obtain ⟨k, D, hk, rfl, hkd, hst, hDw, hgr⟩ := hrel
        have hbe : Below w.heap.size w wr := HGR.out wr (HG36.out.trans hgr)
        by_cases hlt : k < ls.length
        · obtain ⟨⟨ak, an, pv, bs, pk, ks, pt, ts⟩, hp⟩ : ∃ p, ls[k]? = some p := ⟨_, List.getElem?_eq_getElem hlt⟩
          have hmem := List.mem_of_getElem? hp
          obtain ⟨gk0, gn0, grow, ⟨gk, gkb⟩, gt, gtb⟩ := HG.out _ hmem
          obtain ⟨m1, m2, m3⟩ := HSM.out _ hmem
          replace gn0 : -9223372036854775808 ≤ an ∧ an ≤ 9223372036854775807 := gn0
          replace grow : RowB w pv bs := grow
          replace gk : RowL IV w pk ks := gk
          replace gt : RowL IV w pt ts := gt
          replace gkb : inI ks := gkb
          replace gtb : inI ts := gtb
          replace m1 : bs.length ≤ 100 := m1
          replace m2 : ks.length ≤ 20 := m2
          replace m3 : ts.length ≤ 20 := m3
          obtain ⟨va, vc, rfl, hvl, -⟩ := grow.gen.shape
          obtain ⟨ka, kc, rfl, hkl, -⟩ := gk.shape
          obtain ⟨ta, tc, rfl, htl, -⟩ := gt.shape
          have HROW : Hid (∀ W, Below w.heap.size w W → RowB W (.slice va bs.length vc) bs) := fun W hW => grow.stays hW
          have HKS : Hid (∀ W, Below w.heap.size w W → RowL IV W (.slice ka ks.length kc) ks) := fun W hW => gk.stays hW
          have HTS : Hid (∀ W, Below w.heap.size w W → RowL IV W (.slice ta ts.length tc) ts) := fun W hW => gt.stays hW
          have HKB : Hid (inI ks) := gkb
          have HTB : Hid (inI ts) := gtb
          obtain ⟨_, _, hve, -, hin⟩ := (HRL.out wr hbe).shape acC_len
          cases hve
          obtain ⟨bb, oo, rfl, hc⟩ := hin k _ hp
          have d0 : wr.cell? ⟨bb, oo + (k * 5 + 0), none⟩ = some (.int .i64 ak) := hc 0 _ rfl
          have d1 : wr.cell? ⟨bb, oo + (k * 5 + 1), none⟩ = some (.int .i64 an) := hc 1 _ rfl
          have d2 : wr.cell? ⟨bb, oo + (k * 5 + 2), none⟩ = some (.slice va bs.length vc) := hc 2 _ rfl
          have d3 : wr.cell? ⟨bb, oo + (k * 5 + 3), none⟩ = some (.slice ka ks.length kc) := hc 3 _ rfl
          have d4 : wr.cell? ⟨bb, oo + (k * 5 + 4), none⟩ = some (.slice ta ts.length tc) := hc 4 _ rfl
          rw [Nat.add_zero] at d0
          rw [← Nat.add_assoc] at d1 d2 d3 d4
          unfold maxLen at hvl hkl htl
          obtain ⟨n1, n2⟩ := gn0
          obtain ⟨W1, hW1⟩ : ∃ W, W = wr.alloc (.cells #[.int .i64 ak, .int .i64 an, .slice va bs.length vc, .slice ka ks.length kc, .slice ta ts.length tc] 37) := ⟨_, rfl⟩
          have hbP : Below wr.heap.size wr W1 := by rw [hW1]; exact (Below.refl _ _).alloc (Nat.le_refl _) _
          have hcP : CellsAt W1 wr.heap.size 37 #[.int .i64 ak, .int .i64 an, .slice va bs.length vc, .slice ka ks.length kc, .slice ta ts.length tc] := by rw [hW1]; exact CellsAt.new wr _ _
          have hk1 := hkd.stays hbP
          have hgr1 := hgr.add hbP
          have hbe1 := HGR.out W1 (HG36.out.trans hgr1)
          have hPn : ¬ wr.heap.size ∈ [g, gd, gm] := by have := hkd.lt; simp; omega
          have HPN := Lib.hid hPn
          have HW1 := Lib.hid hW1
          have HK1 := Lib.hid hk1
          have HG1 := Lib.hid hgr1
          have HBE1 := Lib.hid hbe1
          have HCP := Lib.hid hcP
          have HST1 := Lib.hid hst
          clear hc hin grow gk gt gkb gtb hp hmem hbe hkd hst hgr hW1 hbP hcP hk1 hgr1 hbe1 hPn gk0
          by_cases a0 : ak = 0
          · subst a0
            by_cases a3 : an = 3
            · subst a3
              have hk' := HK1.out
              have hst' := HST1.out
              have hgr' := HG1.out
              have hDw' : D.writes ≤ 1 + (k + 1) := by omega
              have hbe' := HGR.out _ (HG36.out.trans hgr')
              have hR := read_any ea hk' (x := 3) (by decide) (by decide) (HE1.out _ hbe') (HE17.out _ hbe')
              rw [hst'.read.1, hst'.read.2, EV_zero] at hR
              rw [HW1.out] at hR
              have HR := Lib.hid hR
              have HK' := Lib.hid hk'
              have HG' := Lib.hid hgr'
              have HS' := Lib.hid hst'
              clear hR hk' hgr' hst' hbe'
              go_wp2_with fail
              refine HR.out.mono ?_
              rintro e wz ⟨vz, rfl, hoz, hbz⟩
              rw [← HW1.out] at hbz
              have hgz := HG'.out.add hbz
              have hkz := HK'.out.stays hbz
              have z1 := convert_str hoz.row
              have z2 := convert_str (HR6.out wz hgz)
              have zs2 : ((strB (padV B)).toList != (strB (padV B)).toList) = false := by simp
              clear HR hoz hbz
              go_wp2_with fail
              go_roundw
              case rel => exact ⟨k + 1, _, by omega, by go_num, hkz, HS'.out, hDw', hgz⟩
              case measure => simp [intOf]; omega
            · have b3 : (an != 3) = true := by simpa using a3
              have hW := write_any ea HK1.out (x := an) n1 n2 _ bs (HROW.out W1 HBE1.out) (by omega) (by omega) (HE1.out _ HBE1.out) (HE3.out _ HBE1.out) (HE17.out _ HBE1.out)
              rw [HW1.out] at hW
              have HW := Lib.hid hW
              have HWE := Lib.hid (writeM_writes D an bs)
              clear hW
              go_wp2_with fail
              refine HW.out.mono ?_
              rintro e wa ⟨rfl, hk', hga⟩
              rw [← HW1.out] at hga
              have hst' := HST1.out.write a3 bs
              have hgr' := HG1.out.trans hga
              have hDw' : (writeM D an bs).writes ≤ 1 + (k + 1) := by have := HWE.out; omega
              clear HW
              have hbe' := HGR.out _ (HG36.out.trans hgr')
              have hR := read_any ea hk' (x := 3) (by decide) (by decide) (HE1.out _ hbe') (HE17.out _ hbe')
              rw [hst'.read.1, hst'.read.2, EV_zero] at hR
              have HR := Lib.hid hR
              have HK' := Lib.hid hk'
              have HG' := Lib.hid hgr'
              have HS' := Lib.hid hst'
              clear hR hk' hgr' hst' hbe'
              go_wp2_with fail
              refine HR.out.mono ?_
              rintro e wz ⟨vz, rfl, hoz, hbz⟩
              have hgz := HG'.out.add hbz
              have hkz := HK'.out.stays hbz
              have z1 := convert_str hoz.row
              have z2 := convert_str (HR6.out wz hgz)
              have zs2 : ((strB (padV B)).toList != (strB (padV B)).toList) = false := by simp
              clear HR hoz hbz
              go_wp2_with fail
              go_roundw
              case rel => exact ⟨k + 1, _, by omega, by go_num, hkz, HS'.out, hDw', hgz⟩
              case measure => simp [intOf]; omega
          · by_cases a2 : ak = 2
            · subst a2
              have hS := sync_any ea HK1.out (HE17.out _ HBE1.out)
              rw [HW1.out] at hS
              have HS := Lib.hid hS
              have HSE := Lib.hid (syncM_wr D)
              clear hS
              go_wp2_with fail
              refine HS.out.mono ?_
              rintro e wa ⟨rfl, hk', hga⟩
              rw [← HW1.out] at hga
              have hst' := HST1.out.sync
              have hgr' := HG1.out.trans hga
              have hDw' : (syncM D).writes ≤ 1 + (k + 1) := by have := HSE.out; omega
              clear HS
              have hbe' := HGR.out _ (HG36.out.trans hgr')
              have hR := read_any ea hk' (x := 3) (by decide) (by decide) (HE1.out _ hbe') (HE17.out _ hbe')
              rw [hst'.read.1, hst'.read.2, EV_zero] at hR
              have HR := Lib.hid hR
              have HK' := Lib.hid hk'
              have HG' := Lib.hid hgr'
              have HS' := Lib.hid hst'
              clear hR hk' hgr' hst' hbe'
              go_wp2_with fail
              refine HR.out.mono ?_
              rintro e wz ⟨vz, rfl, hoz, hbz⟩
              have hgz := HG'.out.add hbz
              have hkz := HK'.out.stays hbz
              have z1 := convert_str hoz.row
              have z2 := convert_str (HR6.out wz hgz)
              have zs2 : ((strB (padV B)).toList != (strB (padV B)).toList) = false := by simp
              clear HR hoz hbz
              go_wp2_with fail
              go_roundw
              case rel => exact ⟨k + 1, _, by omega, by go_num, hkz, HS'.out, hDw', hgz⟩
              case measure => simp [intOf]; omega
            · by_cases a4 : ak = 4
              · subst a4
                obtain ⟨wo, rfl⟩ : ∃ wo : World, wo = wr := ⟨_, rfl⟩
                have hsz1 : W1.heap.size = wo.heap.size + 1 := by rw [HW1.out]; simp
                obtain ⟨W2, hW2⟩ : ∃ W, W = W1.alloc (.cells #[] 40) := ⟨_, rfl⟩
                have hbT : Below W1.heap.size W1 W2 := by rw [hW2]; exact (Below.refl _ _).alloc (Nat.le_refl _) _
                have how : OwnS 40 2 toC W1.heap.size W2 (.slice (some ⟨W1.heap.size, 0, none⟩) 0 0) [] := by rw [hW2]; exact World.ownsRow_made (base := W1.heap.size) (e := 40) (size := 2) W1 #[] 0 (Nat.le_refl _) (Nat.zero_le _) rfl
                rw [HW1.out] at hW2
                have HW2 := Lib.hid hW2
                have HSZ := Lib.hid hsz1
                have HOW := Lib.hid how
                have HBT := Lib.hid hbT
                clear hW2 hsz1 how hbT
                go_wp2_with fail
                rw [← HW2.out]
                go_loopw [102, 10] (fun i v wi => ∃ j : Nat, j ≤ ts.length ∧ i = .int .i64 j ∧ OwnS 40 2 toC W1.heap.size wi v ((ts.take j).map fun t => (⟨t, .slice va bs.length vc, bs⟩ : To)) ∧ Below W1.heap.size W1 wi) (fun i _ _ => ts.length - (intOf i).toNat)
                case atStart => exact ⟨0, Nat.zero_le _, rfl, by rw [← HSZ.out]; exact HOW.out, HBT.out⟩
                case round =>
                  obtain ⟨j, hj, rfl, ho, hbw⟩ := hrel
                  have hcW := HCP.out.stays hbw
                  have hbei := HBE1.out.trans (hbw.mono HBE1.out.size)
                  have p2 := hcW.cell 2 (v := .slice va bs.length vc) rfl
                  have p3 := hcW.cell 3 (v := .slice ka ks.length kc) rfl
                  have hltP := hcW.lt
                  clear hcW
                  by_cases hjt : j < ts.length
                  · obtain ⟨t, hjt'⟩ : ∃ t, ts[j]? = some t := ⟨_, List.getElem?_eq_getElem hjt⟩
                    obtain ⟨_, _, hve, -, hin⟩ := (HTS.out wr hbei).shape
                    cases hve
                    obtain ⟨tb, tof, rfl, htc⟩ := hin j t hjt'
                    replace htc : wr.cell? ⟨tb, tof + j, none⟩ = some (.int .i64 t) := htc
                    have hlen : ((ts.take j).map fun t => (⟨t, .slice va bs.length vc, bs⟩ : To)).length ≤ 100000000 := by simp; omega
                    have HJ := Lib.hid hjt'
                    have HBW := Lib.hid hbw
                    have hszw := hbw.size
                    clear hin hjt' hbei hbw
                    go_wp2_with (at_builtin; go_must (refine wpList_pushX toC_len Tryd.underlying38 infoT rfl (by decide) ho ⟨t, .slice va bs.length vc, bs⟩ rfl hlen hszw rfl _ _ rfl (by rfl) _ _ _ (by rfl) (by rfl) ?_))
                    intro v9 w9 o9 g9 n9
                    have hb9 := OwnS.below ho HBW.out g9 hszw
                    clear g9 n9 ho htc
                    go_wp2_with fail
                    go_roundw
                    case rel => exact ⟨j + 1, by omega, by go_num, by rw [List.take_add_one, HJ.out, List.map_append, List.map_take]; exact o9, hb9⟩
                    case measure => simp [intOf]; omega
                  · obtain rfl : j = ts.length := by omega
                    rw [List.take_length] at ho
                    have hC := crash_any (HK1.out.stays hbw) (.slice ka ks.length kc) ks u10 (ts.map fun t => (⟨t, .slice va bs.length vc, bs⟩ : To)) (fun W hW => by
                      have hbW := hW.below hbei (by intro i hi; have := HGS.out; simp at hi; omega) hbei.size
                      refine ⟨HKS.out W hbW, OwnS.row (ho.grew hW (fun k hk => by have := (World.ownsRow.lt ho k hk).1; have := HK1.out.lt; simp; omega)), fun t ht => ?_⟩
                      obtain ⟨q, _, rfl⟩ := List.mem_map.1 ht
                      exact HROW.out W hbW) HKB.out (fun t ht => by
                      obtain ⟨q, hq, rfl⟩ := List.mem_map.1 ht
                      refine ⟨HTB.out q hq, ?_⟩
                      show bs.length ≤ 1000000
                      omega)
                    have HC := Lib.hid hC
                    have HBW := Lib.hid hbw
                    clear hC ho hbw hbei
                    go_wp2_with fail
                    refine HC.out.mono ?_
                    rintro e wa ⟨rfl, hk', hga⟩
                    have hst' := HST1.out.crash ks ((ts.map fun t => (⟨t, .slice va bs.length vc, bs⟩ : To)).map To.p)
                    have hgr' := (HG1.out.add HBW.out).trans hga
                    have hDw' : (crashM D ks ((ts.map fun t => (⟨t, .slice va bs.length vc, bs⟩ : To)).map To.p)).writes ≤ 1 + (k + 1) := by show D.writes ≤ _; omega
                    clear HC
                    have hbe' := HGR.out _ (HG36.out.trans hgr')
                    have hR := read_any ea hk' (x := 3) (by decide) (by decide) (HE1.out _ hbe') (HE17.out _ hbe')
                    rw [hst'.read.1, hst'.read.2, EV_zero] at hR
                    have HR := Lib.hid hR
                    have HK' := Lib.hid hk'
                    have HG' := Lib.hid hgr'
                    have HS' := Lib.hid hst'
                    clear hR hk' hgr' hst' hbe'
                    go_wp2_with fail
                    refine HR.out.mono ?_
                    rintro e wz ⟨vz, rfl, hoz, hbz⟩
                    have hgz := HG'.out.add hbz
                    have hkz := HK'.out.stays hbz
                    have z1 := convert_str hoz.row
                    have z2 := convert_str (HR6.out wz hgz)
                    have zs2 : ((strB (padV B)).toList != (strB (padV B)).toList) = false := by simp
                    clear HR hoz hbz
                    go_wp2_with fail
                    go_roundw
                    case rel => exact ⟨k + 1, _, by omega, by go_num, hkz, HS'.out, hDw', hgz⟩
                    case measure => simp [intOf]; omega
              · have hk' := HK1.out
                have hst' := HST1.out
                have hgr' := HG1.out
                have hDw' : D.writes ≤ 1 + (k + 1) := by omega
                have hbe' := HGR.out _ (HG36.out.trans hgr')
                have hR := read_any ea hk' (x := 3) (by decide) (by decide) (HE1.out _ hbe') (HE17.out _ hbe')
                rw [hst'.read.1, hst'.read.2, EV_zero] at hR
                rw [HW1.out] at hR
                have HR := Lib.hid hR
                have HK' := Lib.hid hk'
                have HG' := Lib.hid hgr'
                have HS' := Lib.hid hst'
                clear hR hk' hgr' hst' hbe'
                go_wp2_with fail
                refine HR.out.mono ?_
                rintro e wz ⟨vz, rfl, hoz, hbz⟩
                rw [← HW1.out] at hbz
                have hgz := HG'.out.add hbz
                have hkz := HK'.out.stays hbz
                have z1 := convert_str hoz.row
                have z2 := convert_str (HR6.out wz hgz)
                have zs2 : ((strB (padV B)).toList != (strB (padV B)).toList) = false := by simp
                clear HR hoz hbz
                go_wp2_with fail
                go_roundw
                case rel => exact ⟨k + 1, _, by omega, by go_num, hkz, HS'.out, hDw', hgz⟩
                case measure => simp [intOf]; omega
        · obtain rfl : k = ls.length := by omega
          go_wp2_with fail
          go_ret
          exact ⟨rfl, hbe⟩
end Go.Proofs.YtalebgnnlgcglaaDoor
