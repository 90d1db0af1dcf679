/- The walk of three.Rows. -/
import Derived.Test.YtidfjemblidjkaaThD
import Derived.Deep.RegionHeld3
import Derived.Deep.DrawnRows
import Derived.Deep.RegionLaw
namespace Go.Proofs.Ytidfjemblidjkaa
open Go Go.RowKit
set_option linter.unusedVariables false
attribute [local go_sem ↓] Go.wp_at_zero Go.wp_at_succ
/-- one element is appended, at a step of a region that draws its order -/
theorem step_pushS {α : Type} {cs : α → List Value} {E T : TypeId} {size B : Nat} {w : World} {v : Value} {xs : List α} {P : Program} {ops : Array Oper} {o : Oper} {a : Act} {K : Act → World → Prop} {Q : Exit → Act → World → Prop} {EE : Prop} (hcs : ∀ x, (cs x).length = size) (hf : ∀ x : α, (cs x).all Value.oneCell' = true) {z : Value} {bytes : Nat} (ht : P.underlying T = some (.slice E))
    (hinf : (P.info? E).map (fun i => (i.zero, i.size, i.bytes)) = some (some z, size, bytes)) (hz : z.cells.size = size) (hbs : bytes ≤ 1000) (hown : OwnS E size cs B w v xs) (x : α) (h63 : xs.length ≤ 100000000) (hbase : B ≤ w.heap.size)
    (hgd : o.guard = none) (s y : Operand) (ho : o.op = .call { callee := .builtin .append, args := #[s, y], argTypes := #[T, T] }) (hs : a.eval s = v)
    (us : Array Value) (e' : TypeId) (c : Nat) (hx : a.eval y = .slice (some ⟨w.heap.size, 0, none⟩) 1 c) (hu : us.toList = cs x)
    (h : ∀ v' w', OwnS E size cs B w' v' (xs ++ [x]) → w.grownBy w' v.ownBlock → NewOrSame w v v' → K (a.put o.dst v') w') :
    if Region.wanted o (yielded ops a.tmps) = true then Oper.wp P o a (w.alloc (.cells us e')) K Q else EE := by
  have hw : Region.wanted o (yielded ops a.tmps) = true := by simp [Region.wanted, hgd]
  rw [if_pos hw]
  obtain ⟨i, hi, hz0, hz1, hz2⟩ := info_parts hinf
  have hul : us.size = size := by rw [← Array.length_toList, hu, hcs]
  have hsrc : Src P size T (.slice (some ⟨w.heap.size, 0, none⟩) 1 c) 1 us.toList (w.alloc (.cells us e')) := by
    refine Src.ofSlice _ ht ⟨w.heap.size, 0, none⟩ 1 c us.toList (by simpa using hul) ?_ (fun u hq => List.all_eq_true.1 (hf x) u (by rw [← hu]; exact hq))
    intro j u hj
    have hadd : (⟨w.heap.size, 0, none⟩ : Addr).add j = ⟨w.heap.size, j, none⟩ := by unfold Addr.add; split <;> simp_all
    rw [hadd, cell_of_row (w.alloc (.cells us e')) w.heap.size j us e' (0, 0) (heap_alloc_new w _)]
    simpa using hj
  have hby : (xs.length + 1) * bytes ≤ 140737488355328 := by
    have := Nat.mul_le_mul (show xs.length + 1 ≤ 100000001 by omega) hbs
    omega
  obtain ⟨v', w', h1, h2, h3, h4, h5⟩ := run_append_src (w.alloc (.cells us e')) B T T o.type E i z size bytes ht hi hz0 hz1 hz2 hz v xs.length (xs.flatMap cs) (World.ownsRow.alloc hown _) _ 1 us.toList hsrc (by unfold maxLen; omega) hby (by simp; omega)
  refine Lib.wp_append_run _ s y T T ho v _ hs hx v' w' h1 (h v' w' ?_ (grownBy_trans (World.grownBy_alloc w _ _) h3) (fun k hk => ?_))
  · unfold OwnS
    rw [hu] at h2
    simpa using h2
  · rcases h4 k hk with h' | h'
    · exact .inl h'
    · exact .inr (by simp at h'; omega)
theorem infoC : (Try.prog.info? 51).map (fun i => (i.zero, i.size, i.bytes)) = some (some (.agg #[.int .i64 0, .int .i64 0, .int .i64 0, .int .i64 0, .int .i64 0, .int .i64 0, .int .i64 0]), 7, 56) := by kernel_rfl
def rowsC (o a b : List Int) : List Ck := chunks o a b (felV o a) (felV o b) (o.length + a.length + b.length + 1) 0 0 0
def lenOf : Value → Nat
  | .slice _ n _ => n
  | _ => 0
abbrev OwnC (B : Nat) (w : World) (v : Value) (cs : List Ck) : Prop := OwnS 51 7 ckC B w v cs
theorem ownC_len {B : Nat} {w : World} {v : Value} {cs : List Ck} (h : OwnC B w v cs) : lenOf v = cs.length := by
  obtain ⟨a, c, rfl, -, -⟩ := h.row.shape ckC_len
  rfl
theorem chunks_end {o a b f g : List Int} {n x y z : Nat} (h : ¬ (x < o.length ∨ y < a.length ∨ z < b.length)) : chunks o a b f g (n + 1) x y z = [] := by rw [chunks, if_neg h]
theorem chunks_stab {o a b f g : List Int} {n x y z : Nat} (h : x < o.length ∨ y < a.length ∨ z < b.length) (hs : 0 < stb f g x y z) :
    chunks o a b f g (n + 1) x y z = ⟨1, x, x + stb f g x y z, y, y + stb f g x y z, z, z + stb f g x y z⟩ :: chunks o a b f g n (x + stb f g x y z) (y + stb f g x y z) (z + stb f g x y z) := by rw [chunks, if_pos h, if_pos hs]
theorem chunks_gap {o a b f g : List Int} {n x y z X Y Z : Nat} (h : x < o.length ∨ y < a.length ∨ z < b.length) (hs : ¬ 0 < stb f g x y z) (hn : nxt o a b f g x = (X, Y, Z)) :
    chunks o a b f g (n + 1) x y z = ⟨kindV (seg o x X) (seg a y Y) (seg b z Z), x, X, y, Y, z, Z⟩ :: chunks o a b f g n X Y Z := by rw [chunks, if_pos h, if_neg hs, hn]
set_option maxRecDepth 100000 in
set_option maxHeartbeats 8000000 in
theorem rows_any (vo va vb : Value) (o a b : List Int) (w : World) (ho : RowZ w vo o) (ha : RowZ w va a) (hb : RowZ w vb b) (hlo : o.length ≤ 40) (hla : a.length ≤ 40) (hlb : b.length ≤ 40) :
    Calls Try.prog 25 #[vo, va, vb] w fun e w' => ∃ v', e = .returned v' ∧ OwnC w.heap.size w' v' (rowsC o a b) ∧ Below w.heap.size w w' := by
  have HFA := Lib.hid (fellows_any vo va o a w ho ha (by omega) (by omega))
  have HFB : Hid (∀ w', Below w.heap.size w w' → _) := fun w' h => fellows_any vo vb o b w' (ho.stays h) (hb.stays h) (by omega) (by omega)
  have hFa : Fel o a (felV o a) := felV_ok (by have := dist_le _ o a (Nat.le_refl _); omega)
  have hFb : Fel o b (felV o b) := felV_ok (by have := dist_le _ o b (Nat.le_refl _); omega)
  have HFEa := Lib.hid hFa
  have HFEb := Lib.hid hFb
  have HR : Hid (chunks o a b (felV o a) (felV o b) (o.length + a.length + b.length + 1) 0 0 0 = rowsC o a b) := rfl
  obtain ⟨f, hfe⟩ : ∃ f, f = felV o a := ⟨_, rfl⟩
  obtain ⟨g, hge⟩ : ∃ g, g = felV o b := ⟨_, rfl⟩
  rw [← hfe] at HFA HFEa HR
  rw [← hge] at HFB HFEb HR
  have HRO : Hid (∀ w', Below w.heap.size w w' → RowZ w' vo o) := fun w' h => ho.stays h
  have HRA : Hid (∀ w', Below w.heap.size w w' → RowZ w' va a) := fun w' h => ha.stays h
  have HRB : Hid (∀ w', Below w.heap.size w w' → RowZ w' vb b) := fun w' h => hb.stays h
  obtain ⟨ao, co, rfl, -, -⟩ := ho.gen.shape
  obtain ⟨aa, ca, rfl, -, -⟩ := ha.gen.shape
  obtain ⟨ab, cb, rfl, -, -⟩ := hb.gen.shape
  clear ho ha hb hFa hFb hfe hge
  go_enter Try.func25, Try.ntmps25
  go_wp2_with fail
  refine HFA.out.mono ?_
  rintro e w1 ⟨v16, rfl, of1, hb1⟩
  go_wp2_with fail
  refine (HFB.out w1 hb1).mono ?_
  rintro e w2 ⟨v19, rfl, og1, hb2⟩
  have hbe2 := hb1.trans (hb2.mono hb1.size)
  have HVF : Hid (∀ w', Below w2.heap.size w2 w' → RowZ w' v16 f) := fun w' h => (of1.stays hb2).row.stays h
  have HVG : Hid (∀ w', Below w2.heap.size w2 w' → RowZ w' v19 g) := fun w' h => og1.row.stays h
  obtain ⟨a16, c16, hv16, -, -⟩ := of1.row.shape
  subst hv16
  obtain ⟨a19, c19, hv19, -, -⟩ := og1.row.shape
  subst hv19
  have hs2 := hbe2.size
  clear of1 og1 hb1 hb2 HFA HFB
  go_wp2_with fail
  obtain ⟨w3, hw3⟩ : ∃ w3, w3 = w2.alloc (.cells #[.slice ao o.length co, .slice aa a.length ca, .slice ab b.length cb, .slice a16 f.length c16, .slice a19 g.length c19, .int .i64 0, .int .i64 0, .int .i64 0] 70) := ⟨_, rfl⟩
  obtain ⟨gw, hgw⟩ : ∃ gw, gw = w2.heap.size := ⟨_, rfl⟩
  have hcw : WkAt w3 gw (.slice ao o.length co) (.slice aa a.length ca) (.slice ab b.length cb) (.slice a16 f.length c16) (.slice a19 g.length c19) 0 0 0 := by rw [hw3, hgw]; exact CellsAt.new w2 _ _
  have hb3 : Below w2.heap.size w2 w3 := by rw [hw3]; exact (Below.refl _ _).alloc (Nat.le_refl _) _
  have hs3 : w3.heap.size = gw + 1 := by rw [hw3, hgw]; simp
  have hgwl : w2.heap.size ≤ gw := by omega
  rw [← hgw, ← hw3]
  have HS3 := Lib.hid hs3
  clear hw3 hgw hs3
  go_loopw [8] (fun v wr => ∃ (x y z n : Nat) (out : List Ck), At o a b f g x y z ∧ o.length + a.length + b.length + 1 ≤ n + x + y + z ∧ out.length ≤ x + y + z ∧ WkAt wr gw (.slice ao o.length co) (.slice aa a.length ca) (.slice ab b.length cb) (.slice a16 f.length c16) (.slice a19 g.length c19) x y z ∧ OwnC (gw + 1) wr v out ∧ Hid (out ++ chunks o a b f g n x y z = rowsC o a b) ∧ Below w2.heap.size w2 wr ∧ gw + 1 ≤ wr.heap.size) (fun v _ => 400 - lenOf v)
  case atStart => exact ⟨0, 0, 0, _, [], ⟨Nat.zero_le _, Nat.zero_le _, Nat.zero_le _, fun _ _ _ _ => Nat.zero_le _, fun _ _ _ _ => Nat.zero_le _⟩, Nat.le_refl _, Nat.le_refl _, hcw, OwnS.nil _ _, HR.out, hb3, by have := HS3.out; omega⟩
  case round =>
    clear hcw hb3
    obtain ⟨x, y, z, n, out, hAt, hn, hol, hW, how, HO, hbe, hgs⟩ := hrel
    have hx := hAt.hx
    have hy := hAt.hy
    have hz := hAt.hz
    have c5 := CellsAt.cell hW 5 (v := .int .i64 x) rfl
    have c6 := CellsAt.cell hW 6 (v := .int .i64 y) rfl
    have c7 := CellsAt.cell hW 7 (v := .int .i64 z) rfl
    have hb0 := hbe2.trans (hbe.mono hs2)
    have hlen := ownC_len how
    have HLEN := Lib.hid hlen
    have HAT := Lib.hid hAt
    clear hAt hlen
    by_cases hm : x < o.length ∨ y < a.length ∨ z < b.length
    · obtain ⟨n', hn'⟩ : ∃ n', n = n' + 1 := ⟨n - 1, by omega⟩
      rw [hn'] at HO
      have hnn : o.length + a.length + b.length + 1 ≤ n' + 1 + x + y + z := by omega
      have HMM := Lib.hid hm
      have HST := Lib.hid (stable_any gw _ _ _ _ _ o f g x y z wr hW (HRO.out _ hb0) (HVF.out _ hbe) (HVG.out _ hbe) (by omega) HFEa.out.len HFEb.out.len (by omega) (by omega) (by omega))
      have HWK := Lib.hid hW
      obtain ⟨s, hs⟩ : ∃ s, s = stb f g x y z := ⟨_, rfl⟩
      rw [← hs] at HST
      clear hn hn'
      go_upto_region 3 with fail
      go_cut [46] from 22 to 46 (fun v wx => v = .bool true ∧ wr = wx)
      case first =>
        by_cases k1 : x < o.length
        · have e1 : decide ((x : Int) < o.length) = true := decide_eq_true (by omega)
          have e1' : decide (x < o.length) = true := decide_eq_true k1
          go_wp2_with fail
          go_meet
          case rel => exact ⟨rfl, rfl⟩
        · have e1 : decide ((x : Int) < o.length) = false := decide_eq_false (by omega)
          have e1' : decide (x < o.length) = false := decide_eq_false k1
          by_cases k2 : y < a.length
          · have e2 : decide ((y : Int) < a.length) = true := decide_eq_true (by omega)
            have e2' : decide (y < a.length) = true := decide_eq_true k2
            go_wp2_with fail
            go_meet
            case rel => exact ⟨rfl, rfl⟩
          · have e2 : decide ((y : Int) < a.length) = false := decide_eq_false (by omega)
            have e2' : decide (y < a.length) = false := decide_eq_false k2
            have e3 : decide ((z : Int) < b.length) = true := decide_eq_true (by omega)
            have e3' : decide (z < b.length) = true := decide_eq_true (by omega)
            go_wp2_with fail
            go_meet
            case rel => exact ⟨rfl, rfl⟩
      case rest =>
        obtain ⟨rfl, rfl⟩ := hcut
        clear hm c5 c6 c7
        go_wp2_with fail
        refine HST.out.mono ?_
        rintro e W ⟨rfl, hbW⟩
        have hWW : WkAt W gw _ _ _ _ _ x y z := CellsAt.stays HWK.out hbW
        have c5 := CellsAt.cell hWW 5 (v := .int .i64 x) rfl
        have c6 := CellsAt.cell hWW 6 (v := .int .i64 y) rfl
        have c7 := CellsAt.cell hWW 7 (v := .int .i64 z) rfl
        have howW := OwnS.stays how hbW
        have hbeW := hbe.trans (hbW.mono hbe.size)
        have hgsW : gw + 1 ≤ W.heap.size := Nat.le_trans hgs hbW.size
        have HWW := Lib.hid hWW
        clear hbe how hWW HST HWK hbW hb0
        by_cases h0 : 0 < s
        · have hst := stb_at HFEa.out HFEb.out HAT.out (by rw [← hs]; exact h0)
          rw [← hs] at hst
          have hch := chunks_stab (n := n') HMM.out (by rw [← hs]; exact h0)
          rw [← hs] at hch
          rw [hch] at HO
          have HAT2 := Lib.hid hst
          have hsx := hst.hx
          have hsy := hst.hy
          have hsz := hst.hz
          have e1 : decide ((s : Int) > 0) = true := decide_eq_true (by omega)
          have e1' : decide (0 < s) = true := decide_eq_true h0
          have htk : ∀ w', WkAt w' gw _ _ _ _ _ x y z → _ := fun w' h => take_any gw (.slice ao o.length co) (.slice aa a.length ca) (.slice ab b.length cb) (.slice a16 f.length c16) (.slice a19 g.length c19) x y z (x + s) (y + s) (z + s) w' h
          rw [show ((x + s : Nat) : Int) = (x : Int) + s from by push_cast; rfl, show ((y + s : Nat) : Int) = (y : Int) + s from by push_cast; rfl, show ((z + s : Nat) : Int) = (z : Int) + s from by push_cast; rfl] at htk
          have HTK := Lib.hid htk
          clear hst hch hs htk
          go_upto_region 6 with fail
          go_cut [8] from 51 to 73 (fun v wx => WkAt wx gw (.slice ao o.length co) (.slice aa a.length ca) (.slice ab b.length cb) (.slice a16 f.length c16) (.slice a19 g.length c19) (x + s) (y + s) (z + s) ∧ OwnC (gw + 1) wx v (out ++ [⟨1, x, x + s, y, y + s, z, z + s⟩]) ∧ Below w2.heap.size w2 wx ∧ gw + 1 ≤ wx.heap.size)
          case first =>
            have wx1 : IntKind.i64.wrap ((x : Int) + s) = (x : Int) + s := IntWalk.i64_in _ (by omega)
            have wy1 : IntKind.i64.wrap ((y : Int) + s) = (y : Int) + s := IntWalk.i64_in _ (by omega)
            have wz1 : IntKind.i64.wrap ((z : Int) + s) = (z : Int) + s := IntWalk.i64_in _ (by omega)
            have howD : OwnC (gw + 1) W.drew u8 out := OwnS.stays howW (Below.refl _ _).drew
            have HWD : Hid (WkAt W.drew gw _ _ _ _ _ x y z) := HWW.out
            go_region_law ((first
              | (go_simp; go_at_call 43; (with_reducible refine (HTK.out _ HWD.out).mono ?_); rintro e w5 ⟨rfl, hW5, hg5⟩)
              | (refine step_pushS ckC_len ckC_one Try.underlying47 infoC rfl (by decide) (own_grown howD hg5 (fun k hk h9 => by have h10 := (howD.lt k hk).1; cases h9; omega)) ⟨1, x, x + s, y, y + s, z, z + s⟩ (by omega) (Nat.le_trans hgsW hg5.size) rfl _ _ rfl (by rfl) _ _ _ (by rfl) (by rfl) ?_; intro v6 w6 o6 g6 n6)))
            all_goals go_wp2_with fail
            all_goals go_meet
            all_goals exact ⟨CellsAt.grown hW5 g6 (fun h => by have := (howD.lt _ h).1; omega), o6, (hbeW.drew.grown hg5 hbeW.size (fun k hk => by cases hk; exact hgwl)).grown g6 (Nat.le_trans hbeW.size hg5.size) (fun k hk => by have := (howD.lt k hk).1; omega), Nat.le_trans hgsW (Nat.le_trans hg5.size g6.size)⟩
          case rest =>
            obtain ⟨hW6, how6, hbe6, hgs6⟩ := hcut
            have HOS := Lib.hid (ownC_len how6)
            go_wp2_with fail
            go_roundw
            case rel => exact ⟨x + s, y + s, z + s, n', _, HAT2.out, by omega, by simp; omega, hW6, how6, by show _ = _; rw [← HO.out]; simp, hbe6, hgs6⟩
            case measure =>
              have h1 := HOS.out
              have h2 := HLEN.out
              rw [List.length_append, List.length_singleton] at h1
              show 400 - lenOf _ < 400 - lenOf _
              omega
        · have hs0 : s = 0 := by omega
          have hns : ¬ 0 < stb f g x y z := by rw [← hs]; exact h0
          obtain ⟨X, Y, Z, hX⟩ : ∃ X Y Z, nxt o a b f g x = (X, Y, Z) := ⟨_, _, _, rfl⟩
          have hch := chunks_gap (n := n') HMM.out hns hX
          rw [hch] at HO
          have hnat := nxt_at HFEa.out HFEb.out HAT.out
          have hmore := nxt_more HFEa.out HFEb.out HAT.out (by omega) HMM.out
          rw [hX] at hnat hmore
          have hat2 : At o a b f g X Y Z := hnat.1
          have hxX : x ≤ X := hnat.2.1
          have hyY : y ≤ Y := hnat.2.2.1
          have hzZ : z ≤ Z := hnat.2.2.2
          have hmo : x + y + z < X + Y + Z := hmore
          have HAT2 := Lib.hid hat2
          have hXo := hat2.hx
          have hYa := hat2.hy
          have hZb := hat2.hz
          have e1 : decide ((s : Int) > 0) = false := decide_eq_false (by omega)
          have e1' : decide (0 < s) = false := decide_eq_false h0
          have hbW0 := hbe2.trans (hbeW.mono hs2)
          have hnx := next_any gw _ _ _ _ _ o a b f g x y z W HWW.out (HRO.out _ hbW0) (HRA.out _ hbW0) (HRB.out _ hbW0) (HVF.out _ hbeW) (HVG.out _ hbeW) (by omega) HFEa.out.len HFEb.out.len (by omega) HFEa.out HFEb.out HAT.out
          rw [hX] at hnx
          have HNX := Lib.hid hnx
          clear hs hns hX hch hnat hmore hat2 hnx hs0
          go_wp2_with fail
          refine HNX.out.mono ?_
          rintro e W2 ⟨rfl, hbN⟩
          have hW2 : WkAt W2 gw _ _ _ _ _ x y z := CellsAt.stays HWW.out hbN
          have HTK := Lib.hid (take_any gw _ _ _ _ _ x y z X Y Z W2 hW2)
          have how2 := OwnS.stays howW hbN
          have hbe2' := hbeW.trans (hbN.mono hbeW.size)
          have hgs2 : gw + 1 ≤ W2.heap.size := Nat.le_trans hgsW hbN.size
          clear hW2 howW hbeW hgsW hbW0 hbN HNX c5 c6 c7
          go_wp2_with fail
          refine HTK.out.mono ?_
          rintro e W3 ⟨rfl, hW3, hg3⟩
          have how3 : OwnC (gw + 1) W3 u8 out := own_grown how2 hg3 (fun k hk h9 => by have h10 := (how2.lt k hk).1; cases h9; omega)
          have hbe3 := hbe2'.grown hg3 hbe2'.size (fun k hk => by cases hk; exact hgwl)
          have hgs3 := Nat.le_trans hgs2 hg3.size
          clear how2 hbe2' hgs2 hg3
          have hcA := CellsAt.new W3 #[.int .i64 1, .int .i64 x, .int .i64 X, .int .i64 y, .int .i64 Y, .int .i64 z, .int .i64 Z] 51
          have hbA : Below W3.heap.size W3 (W3.alloc (.cells #[.int .i64 1, .int .i64 x, .int .i64 X, .int .i64 y, .int .i64 Y, .int .i64 z, .int .i64 Z] 51)) := (Below.refl _ _).alloc (Nat.le_refl _) _
          have hW4 := CellsAt.stays hW3 hbA
          have how4 := OwnS.stays how3 hbA
          have hbe4 := hbe3.trans (hbA.mono hbe3.size)
          have hgs4 := Nat.le_trans hgs3 hbA.size
          have hgcB : gw + 1 ≤ W3.heap.size := hgs3
          have HUL := Lib.hid (fun q hq => (how3.lt q hq).2)
          go_upto_region 8 with fail
          obtain ⟨W4, hW4e⟩ : ∃ W4, W4 = W3.alloc (.cells #[.int .i64 1, .int .i64 x, .int .i64 X, .int .i64 y, .int .i64 Y, .int .i64 z, .int .i64 Z] 51) := ⟨_, rfl⟩
          obtain ⟨gc, hgc⟩ : ∃ gc, gc = W3.heap.size := ⟨_, rfl⟩
          rw [← hgc, ← hW4e] at hcA
          rw [← hW4e] at hW4 how4 hbe4 hgs4 ⊢
          rw [← hgc] at hgcB HUL ⊢
          clear hW4e hgc hbA hW3 how3 hbe3 hgs3
          have hbe04 := hbe2.trans (hbe4.mono hs2)
          have d1 := hcA.cell 1 (v := .int .i64 x) rfl
          have d2 := hcA.cell 2 (v := .int .i64 X) rfl
          have d3 := hcA.cell 3 (v := .int .i64 y) rfl
          have d4 := hcA.cell 4 (v := .int .i64 Y) rfl
          have d5 := hcA.cell 5 (v := .int .i64 z) rfl
          have d6 := hcA.cell 6 (v := .int .i64 Z) rfl
          have d0 := hcA.cell 0 (v := .int .i64 1) rfl
          have f0 := hcA.free 0
          have hco := (HRO.out _ hbe04).gen.cap
          have hca := (HRA.out _ hbe04).gen.cap
          have hcb := (HRB.out _ hbe04).gen.cap
          have hkd := fun w' (h : Below W4.heap.size W4 w') => kind_any _ _ _ (seg o x X) (seg a y Y) (seg b z Z) w' ((HRO.out w' (hbe04.trans (h.mono hbe04.size))).gen.part (l := x) (h := X) hxX hXo) ((HRA.out w' (hbe04.trans (h.mono hbe04.size))).gen.part (l := y) (h := Y) hyY hYa) ((HRB.out w' (hbe04.trans (h.mono hbe04.size))).gen.part (l := z) (h := Z) hzZ hZb) (by unfold seg; simp; omega) (by unfold seg; simp; omega) (by unfold seg; simp; omega)
          have HCA := Lib.hid hcA
          have HW4 := Lib.hid hW4
          have HO4 := Lib.hid how4
          have HB4 := Lib.hid hbe4
          clear hcA hW4 how4 hbe4 hbe04
          have ix1 : (0 : Int) ≤ (x : Int) := by omega
          have ix2 : (x : Int) ≤ (X : Int) := by omega
          have ix3 : (X : Int) ≤ (o.length : Int) := by omega
          have ix4 : (X : Int) ≤ (co : Int) := by omega
          have iy1 : (0 : Int) ≤ (y : Int) := by omega
          have iy2 : (y : Int) ≤ (Y : Int) := by omega
          have iy3 : (Y : Int) ≤ (a.length : Int) := by omega
          have iy4 : (Y : Int) ≤ (ca : Int) := by omega
          have iz1 : (0 : Int) ≤ (z : Int) := by omega
          have iz2 : (z : Int) ≤ (Z : Int) := by omega
          have iz3 : (Z : Int) ≤ (b.length : Int) := by omega
          have iz4 : (Z : Int) ≤ (cb : Int) := by omega
          have HKD0 := Lib.hid hkd
          go_cut [] from 81 to 106 (fun wx => ∃ V, Below W4.heap.size W4 V ∧ wx = V.setCell ⟨gc, 0, none⟩ (.int .i64 (kindV (seg o x X) (seg a y Y) (seg b z Z))))
          case first =>
            have hdd : Below W4.heap.size W4 W4.drew := (Below.refl _ _).drew
            have HC6 : Hid (∀ w', Below W4.heap.size W4 w' → w'.cell? ⟨gc, 1, none⟩ = some (.int .i64 x) ∧ w'.cell? ⟨gc, 2, none⟩ = some (.int .i64 X) ∧ w'.cell? ⟨gc, 3, none⟩ = some (.int .i64 y) ∧ w'.cell? ⟨gc, 4, none⟩ = some (.int .i64 Y) ∧ w'.cell? ⟨gc, 5, none⟩ = some (.int .i64 z) ∧ w'.cell? ⟨gc, 6, none⟩ = some (.int .i64 Z)) := fun w' h => ⟨cell_below h d1, cell_below h d2, cell_below h d3, cell_below h d4, cell_below h d5, cell_below h d6⟩
            have HC7 : Hid (∀ w' v, Below W4.heap.size W4 w' → (w'.setCell ⟨gc, 0, none⟩ v).cell? ⟨gc, 1, none⟩ = some (.int .i64 x) ∧ (w'.setCell ⟨gc, 0, none⟩ v).cell? ⟨gc, 2, none⟩ = some (.int .i64 X) ∧ (w'.setCell ⟨gc, 0, none⟩ v).cell? ⟨gc, 3, none⟩ = some (.int .i64 y) ∧ (w'.setCell ⟨gc, 0, none⟩ v).cell? ⟨gc, 4, none⟩ = some (.int .i64 Y) ∧ (w'.setCell ⟨gc, 0, none⟩ v).cell? ⟨gc, 5, none⟩ = some (.int .i64 z) ∧ (w'.setCell ⟨gc, 0, none⟩ v).cell? ⟨gc, 6, none⟩ = some (.int .i64 Z)) := fun w' v h => by
              have ho : ∀ j, j ≠ 0 → (w'.setCell ⟨gc, 0, none⟩ v).cell? ⟨gc, j, none⟩ = w'.cell? ⟨gc, j, none⟩ := fun j hj => World.cell?_setCell_other w' ⟨gc, 0, none⟩ ⟨gc, j, none⟩ v (by intro e; cases e; exact hj rfl)
              have h6 := HC6.out w' h
              rw [ho 1 (by decide), ho 2 (by decide), ho 3 (by decide), ho 4 (by decide), ho 5 (by decide), ho 6 (by decide)]
              exact h6
            clear d1 d2 d3 d4 d5 d6
            by_cases k1 : co = x
            · by_cases k2 : ca = y
              · by_cases k3 : cb = z
                · exfalso; omega
                · obtain rfl : x = X := by omega
                  obtain rfl : x = co := k1.symm
                  obtain rfl : y = Y := by omega
                  obtain rfl : y = ca := k2.symm
                  have hkd := HKD0.out
                  simp only [if_true, Nat.sub_self, if_neg k3] at hkd
                  have HKD := Lib.hid hkd
                  clear hkd HKD0
                  go_region_held3 (fun w' => w'.cell? ⟨gc, 1, none⟩ = some (.int .i64 x) ∧ w'.cell? ⟨gc, 2, none⟩ = some (.int .i64 x) ∧ w'.cell? ⟨gc, 3, none⟩ = some (.int .i64 y) ∧ w'.cell? ⟨gc, 4, none⟩ = some (.int .i64 y) ∧ w'.cell? ⟨gc, 5, none⟩ = some (.int .i64 z) ∧ w'.cell? ⟨gc, 6, none⟩ = some (.int .i64 Z))
                    (first | exact HC6.out _ (by assumption) | exact HC7.out _ _ (by assumption))
                    ((first
                      | (go_at_call 45; (with_reducible refine (HKD.out _ (by assumption)).mono ?_); rintro e w5 ⟨rfl, hbk⟩; have hbk2 := Below.trans hdd (hbk.mono hdd.size); have hc5 := CellsAt.stays HCA.out hbk2; have m0 := hc5.cell 0 (v := .int .i64 1) rfl; have mf := hc5.free 0; clear hc5)))
                  all_goals go_wp2_with fail
                  all_goals go_meet
                  all_goals exact ⟨_, hbk2, rfl⟩
              · by_cases k3 : cb = z
                · obtain rfl : x = X := by omega
                  obtain rfl : x = co := k1.symm
                  obtain rfl : z = Z := by omega
                  obtain rfl : z = cb := k3.symm
                  have hkd := HKD0.out
                  simp only [if_true, Nat.sub_self, if_neg k2] at hkd
                  have HKD := Lib.hid hkd
                  clear hkd HKD0
                  go_region_held3 (fun w' => w'.cell? ⟨gc, 1, none⟩ = some (.int .i64 x) ∧ w'.cell? ⟨gc, 2, none⟩ = some (.int .i64 x) ∧ w'.cell? ⟨gc, 3, none⟩ = some (.int .i64 y) ∧ w'.cell? ⟨gc, 4, none⟩ = some (.int .i64 Y) ∧ w'.cell? ⟨gc, 5, none⟩ = some (.int .i64 z) ∧ w'.cell? ⟨gc, 6, none⟩ = some (.int .i64 z))
                    (first | exact HC6.out _ (by assumption) | exact HC7.out _ _ (by assumption))
                    ((first
                      | (go_at_call 45; (with_reducible refine (HKD.out _ (by assumption)).mono ?_); rintro e w5 ⟨rfl, hbk⟩; have hbk2 := Below.trans hdd (hbk.mono hdd.size); have hc5 := CellsAt.stays HCA.out hbk2; have m0 := hc5.cell 0 (v := .int .i64 1) rfl; have mf := hc5.free 0; clear hc5)))
                  all_goals go_wp2_with fail
                  all_goals go_meet
                  all_goals exact ⟨_, hbk2, rfl⟩
                · obtain rfl : x = X := by omega
                  obtain rfl : x = co := k1.symm
                  have hkd := HKD0.out
                  simp only [if_true, Nat.sub_self, if_neg k2, if_neg k3] at hkd
                  have HKD := Lib.hid hkd
                  clear hkd HKD0
                  go_region_held3 (fun w' => w'.cell? ⟨gc, 1, none⟩ = some (.int .i64 x) ∧ w'.cell? ⟨gc, 2, none⟩ = some (.int .i64 x) ∧ w'.cell? ⟨gc, 3, none⟩ = some (.int .i64 y) ∧ w'.cell? ⟨gc, 4, none⟩ = some (.int .i64 Y) ∧ w'.cell? ⟨gc, 5, none⟩ = some (.int .i64 z) ∧ w'.cell? ⟨gc, 6, none⟩ = some (.int .i64 Z))
                    (first | exact HC6.out _ (by assumption) | exact HC7.out _ _ (by assumption))
                    ((first
                      | (go_at_call 45; (with_reducible refine (HKD.out _ (by assumption)).mono ?_); rintro e w5 ⟨rfl, hbk⟩; have hbk2 := Below.trans hdd (hbk.mono hdd.size); have hc5 := CellsAt.stays HCA.out hbk2; have m0 := hc5.cell 0 (v := .int .i64 1) rfl; have mf := hc5.free 0; clear hc5)))
                  all_goals go_wp2_with fail
                  all_goals go_meet
                  all_goals exact ⟨_, hbk2, rfl⟩
            · by_cases k2 : ca = y
              · by_cases k3 : cb = z
                · obtain rfl : y = Y := by omega
                  obtain rfl : y = ca := k2.symm
                  obtain rfl : z = Z := by omega
                  obtain rfl : z = cb := k3.symm
                  have hkd := HKD0.out
                  simp only [if_true, Nat.sub_self, if_neg k1] at hkd
                  have HKD := Lib.hid hkd
                  clear hkd HKD0
                  go_region_held3 (fun w' => w'.cell? ⟨gc, 1, none⟩ = some (.int .i64 x) ∧ w'.cell? ⟨gc, 2, none⟩ = some (.int .i64 X) ∧ w'.cell? ⟨gc, 3, none⟩ = some (.int .i64 y) ∧ w'.cell? ⟨gc, 4, none⟩ = some (.int .i64 y) ∧ w'.cell? ⟨gc, 5, none⟩ = some (.int .i64 z) ∧ w'.cell? ⟨gc, 6, none⟩ = some (.int .i64 z))
                    (first | exact HC6.out _ (by assumption) | exact HC7.out _ _ (by assumption))
                    ((first
                      | (go_at_call 45; (with_reducible refine (HKD.out _ (by assumption)).mono ?_); rintro e w5 ⟨rfl, hbk⟩; have hbk2 := Below.trans hdd (hbk.mono hdd.size); have hc5 := CellsAt.stays HCA.out hbk2; have m0 := hc5.cell 0 (v := .int .i64 1) rfl; have mf := hc5.free 0; clear hc5)))
                  all_goals go_wp2_with fail
                  all_goals go_meet
                  all_goals exact ⟨_, hbk2, rfl⟩
                · obtain rfl : y = Y := by omega
                  obtain rfl : y = ca := k2.symm
                  have hkd := HKD0.out
                  simp only [if_true, Nat.sub_self, if_neg k1, if_neg k3] at hkd
                  have HKD := Lib.hid hkd
                  clear hkd HKD0
                  go_region_held3 (fun w' => w'.cell? ⟨gc, 1, none⟩ = some (.int .i64 x) ∧ w'.cell? ⟨gc, 2, none⟩ = some (.int .i64 X) ∧ w'.cell? ⟨gc, 3, none⟩ = some (.int .i64 y) ∧ w'.cell? ⟨gc, 4, none⟩ = some (.int .i64 y) ∧ w'.cell? ⟨gc, 5, none⟩ = some (.int .i64 z) ∧ w'.cell? ⟨gc, 6, none⟩ = some (.int .i64 Z))
                    (first | exact HC6.out _ (by assumption) | exact HC7.out _ _ (by assumption))
                    ((first
                      | (go_at_call 45; (with_reducible refine (HKD.out _ (by assumption)).mono ?_); rintro e w5 ⟨rfl, hbk⟩; have hbk2 := Below.trans hdd (hbk.mono hdd.size); have hc5 := CellsAt.stays HCA.out hbk2; have m0 := hc5.cell 0 (v := .int .i64 1) rfl; have mf := hc5.free 0; clear hc5)))
                  all_goals go_wp2_with fail
                  all_goals go_meet
                  all_goals exact ⟨_, hbk2, rfl⟩
              · by_cases k3 : cb = z
                · obtain rfl : z = Z := by omega
                  obtain rfl : z = cb := k3.symm
                  have hkd := HKD0.out
                  simp only [if_true, Nat.sub_self, if_neg k1, if_neg k2] at hkd
                  have HKD := Lib.hid hkd
                  clear hkd HKD0
                  go_region_held3 (fun w' => w'.cell? ⟨gc, 1, none⟩ = some (.int .i64 x) ∧ w'.cell? ⟨gc, 2, none⟩ = some (.int .i64 X) ∧ w'.cell? ⟨gc, 3, none⟩ = some (.int .i64 y) ∧ w'.cell? ⟨gc, 4, none⟩ = some (.int .i64 Y) ∧ w'.cell? ⟨gc, 5, none⟩ = some (.int .i64 z) ∧ w'.cell? ⟨gc, 6, none⟩ = some (.int .i64 z))
                    (first | exact HC6.out _ (by assumption) | exact HC7.out _ _ (by assumption))
                    ((first
                      | (go_at_call 45; (with_reducible refine (HKD.out _ (by assumption)).mono ?_); rintro e w5 ⟨rfl, hbk⟩; have hbk2 := Below.trans hdd (hbk.mono hdd.size); have hc5 := CellsAt.stays HCA.out hbk2; have m0 := hc5.cell 0 (v := .int .i64 1) rfl; have mf := hc5.free 0; clear hc5)))
                  all_goals go_wp2_with fail
                  all_goals go_meet
                  all_goals exact ⟨_, hbk2, rfl⟩
                · have hkd := HKD0.out
                  simp only [if_neg k1, if_neg k2, if_neg k3] at hkd
                  have HKD := Lib.hid hkd
                  clear hkd HKD0
                  go_region_held3 (fun w' => w'.cell? ⟨gc, 1, none⟩ = some (.int .i64 x) ∧ w'.cell? ⟨gc, 2, none⟩ = some (.int .i64 X) ∧ w'.cell? ⟨gc, 3, none⟩ = some (.int .i64 y) ∧ w'.cell? ⟨gc, 4, none⟩ = some (.int .i64 Y) ∧ w'.cell? ⟨gc, 5, none⟩ = some (.int .i64 z) ∧ w'.cell? ⟨gc, 6, none⟩ = some (.int .i64 Z))
                    (first | exact HC6.out _ (by assumption) | exact HC7.out _ _ (by assumption))
                    ((first
                      | (go_at_call 45; (with_reducible refine (HKD.out _ (by assumption)).mono ?_); rintro e w5 ⟨rfl, hbk⟩; have hbk2 := Below.trans hdd (hbk.mono hdd.size); have hc5 := CellsAt.stays HCA.out hbk2; have m0 := hc5.cell 0 (v := .int .i64 1) rfl; have mf := hc5.free 0; clear hc5)))
                  all_goals go_wp2_with fail
                  all_goals go_meet
                  all_goals exact ⟨_, hbk2, rfl⟩
          case rest =>
            obtain ⟨V, hbV, hwc⟩ := hcut
            subst hwc
            have hcV := CellsAt.set (CellsAt.stays HCA.out hbV) 0 (.int .i64 (kindV (seg o x X) (seg a y Y) (seg b z Z)))
            have hWV : WkAt (V.setCell ⟨gc, 0, none⟩ (.int .i64 (kindV (seg o x X) (seg a y Y) (seg b z Z)))) gw _ _ _ _ _ X Y Z := CellsAt.other (CellsAt.stays HW4.out hbV) _ (by show gw ≠ gc; omega) _
            have howV : OwnC (gw + 1) (V.setCell ⟨gc, 0, none⟩ (.int .i64 (kindV (seg o x X) (seg a y Y) (seg b z Z)))) u8 out := own_grown (OwnS.stays HO4.out hbV) (grown_setCell _ _ _ _) (fun k hk h9 => by have h10 := HUL.out k hk; cases h9; omega)
            have hbV2 : Below w2.heap.size w2 (V.setCell ⟨gc, 0, none⟩ (.int .i64 (kindV (seg o x X) (seg a y Y) (seg b z Z)))) := (HB4.out.trans (hbV.mono HB4.out.size)).setCell (by show w2.heap.size ≤ gc; omega) _
            have hgsV : gw + 1 ≤ (V.setCell ⟨gc, 0, none⟩ (.int .i64 (kindV (seg o x X) (seg a y Y) (seg b z Z)))).heap.size := by have := hbV.size; simp; omega
            obtain ⟨K, hK⟩ : ∃ K, K = kindV (seg o x X) (seg a y Y) (seg b z Z) := ⟨_, rfl⟩
            rw [← hK] at hcV hWV howV hbV2 hgsV HO ⊢
            obtain ⟨V2, hV2⟩ : ∃ V2, V2 = V.setCell ⟨gc, 0, none⟩ (.int .i64 K) := ⟨_, rfl⟩
            rw [← hV2] at hcV hWV howV hbV2 hgsV ⊢
            have m0 := hcV.cell 0 (v := .int .i64 K) (by simp)
            have m1 := hcV.cell 1 (v := .int .i64 x) (by simp)
            have m2 := hcV.cell 2 (v := .int .i64 X) (by simp)
            have m3 := hcV.cell 3 (v := .int .i64 y) (by simp)
            have m4 := hcV.cell 4 (v := .int .i64 Y) (by simp)
            have m5 := hcV.cell 5 (v := .int .i64 z) (by simp)
            have m6 := hcV.cell 6 (v := .int .i64 Z) (by simp)
            clear hK hV2 hbV hcV d0 d1 d2 d3 d4 d5 d6 f0 hkd
            go_wp2_with (at_builtin; go_must (refine wpList_pushS ckC_len ckC_one Try.underlying47 infoC rfl (by decide) howV ⟨K, x, X, y, Y, z, Z⟩ (by omega) hgsV rfl _ _ rfl (by rfl) _ _ _ (by rfl) (by rfl) ?_))
            intro v9 w9 o9 g9 n9
            have hW9 : WkAt w9 gw _ _ _ _ _ X Y Z := CellsAt.grown hWV g9 (fun h => by have := (howV.lt _ h).1; omega)
            have hb9 := hbV2.grown g9 hbV2.size (fun k hk => by have := (howV.lt k hk).1; omega)
            have hgs9 := Nat.le_trans hgsV g9.size
            have HOS := Lib.hid (ownC_len o9)
            clear hWV howV hbV2 hgsV g9 n9 m0 m1 m2 m3 m4 m5 m6
            go_wp2_with fail
            go_roundw
            case rel => exact ⟨X, Y, Z, n', _, HAT2.out, by omega, by simp; omega, hW9, o9, by show _ = _; rw [← HO.out]; simp, hb9, hgs9⟩
            case measure =>
              have h1 := HOS.out
              have h2 := HLEN.out
              rw [List.length_append, List.length_singleton] at h1
              show 400 - lenOf _ < 400 - lenOf _
              omega
    · obtain ⟨n', hn'⟩ : ∃ n', n = n' + 1 := ⟨n - 1, by omega⟩
      rw [hn', chunks_end hm, List.append_nil] at HO
      have e1 : decide ((x : Int) < o.length) = false := decide_eq_false (by omega)
      have e1' : decide (x < o.length) = false := decide_eq_false (by omega)
      have e2 : decide ((y : Int) < a.length) = false := decide_eq_false (by omega)
      have e2' : decide (y < a.length) = false := decide_eq_false (by omega)
      have e3 : decide ((z : Int) < b.length) = false := decide_eq_false (by omega)
      have e3' : decide (z < b.length) = false := decide_eq_false (by omega)
      have HOW := Lib.hid how
      clear hm hn hn' how
      go_wp2_with fail
      go_ret
      exact ⟨_, ret1 rfl, by rw [← HO.out]; exact OwnS.mono HOW.out (by omega), hb0⟩
end Go.Proofs.Ytidfjemblidjkaa
