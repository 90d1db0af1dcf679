/- An act is done to the disk and to the document's (layer 31's law, 'do'): what it hands back, and what becomes of both. -/
import Derived.Test.YtalebgnnlgcglaaDoorDaP
import Derived.Test.YtalebgnnlgcglaaDoorAcO
import Derived.Test.YtalebgnnlgcglaaDoorBytes
import Derived.Test.YtalebgnnlgcglaaDoorDkQ
import Derived.Test.YtalebgnnlgcglaaDoorDkL
import Derived.Test.YtalebgnnlgcglaaDoorSameZ
import Derived.Deep.RegionHeld3
import Derived.Deep.CutBlock
import Derived.Deep.DeepCutAuto
namespace Go.Proofs.YtalebgnnlgcglaaDoor
open Go Go.RowKit
set_option linter.unusedVariables false
theorem infoT : (Tryd.prog.info? 40).map (fun i => (i.zero, i.size, i.bytes)) = some (some (.agg #[.int .i64 0, .slice none 0 0]), 2, 32) := by kernel_rfl
theorem wpList_pushX {α : Type} {cs : α → List Value} {E T : TypeId} {size B : Nat} {w : World} {v : Value} {xs : List α} {P : Program} {ops : Array Oper} {rest : List Oper} {o : Oper} {a : Act} {Q : Exit → Act → World → Prop} (hcs : ∀ x, (cs x).length = size) {z : Value} {bytes : Nat} (ht : P.underlying T = some (.slice E))
    (hinf : (P.info? E).map (fun i => (i.zero, i.size, i.bytes)) = some (some z, size, bytes)) (hz : z.cells.size = size) (hbs : bytes ≤ 1000) (hown : OwnS E size cs B w v xs) (x : α) (hf : (cs x).all Value.oneCell' = true) (h63 : xs.length ≤ 100000000) (hbase : B ≤ w.heap.size)
    (hgd : o.guard = none) (s y : Operand) (ho : o.op = .call { callee := .builtin .append, args := #[s, y], argTypes := #[T, T] }) (hs : a.eval s = v)
    (us : Array Value) (e' : TypeId) (c : Nat) (hx : a.eval y = .slice (some ⟨w.heap.size, 0, none⟩) 1 c) (hu : us.toList = cs x)
    (h : ∀ v' w', OwnS E size cs B w' v' (xs ++ [x]) → w.grownBy w' v.ownBlock → NewOrSame w v v' → wpList P ops Q rest (a.put o.dst v') w') :
    wpList P ops Q (o :: rest) a (w.alloc (.cells us e')) := by
  have hul : us.size = size := by rw [← Array.length_toList, hu, hcs]
  refine wpList_push hgd s y T ho B E z size bytes ht hinf hz v xs.length (xs.flatMap cs) hs hown us e' c hx hul (by rw [hu]; exact hf) (by unfold maxLen; omega) ?_ hbase (fun v' w' h1 h2 h3 => h v' w' ?_ h2 h3)
  · have := Nat.mul_le_mul (show xs.length + 1 ≤ 100000001 by omega) hbs
    omega
  · unfold OwnS
    rw [hu] at h1
    simpa using h1
theorem BlockB.grew {S : List Nat} {w w' : World} {g : Nat} {bs : List UInt8} (h : BlockB w g bs) (hg : Grew S w w') (hn : g ∉ S) : BlockB w' g bs := by
  unfold BlockB
  rw [hg.block g (lt_of_block h) hn]
  exact h
theorem MarkB.grew {S : List Nat} {B : Nat} {w w' : World} {v : Value} {bs : List UInt8} (h : MarkB B w v bs) (hg : Grew S w w') (hn : ∀ i ∈ S, i < B) : MarkB B w' v bs := by
  obtain ⟨g, hv, h1, h2, h3⟩ := h
  exact ⟨g, hv, h1, h2, h3.grew hg (fun hm => by have := hn g hm; omega)⟩
/-- rows of the call's own whose elements' types differ lie apart -/
theorem OwnS.apart {α β : Type} {E E' : TypeId} {size size' : Nat} {cs : α → List Value} {cs' : β → List Value} {B B' : Nat} {w : World} {v v' : Value} {xs : List α} {ys : List β} (h : OwnS E size cs B w v xs) (h' : OwnS E' size' cs' B' w v' ys) (hE : E ≠ E') : ∀ k, v.ownBlock = some k → v'.ownBlock ≠ some k := by
  intro k h1 h2
  rcases h.2 with ⟨hv, _⟩ | ⟨g, cap, cur, hv, _, hg, _⟩
  · rw [hv] at h1; cases h1
  · rcases h'.2 with ⟨hv', _⟩ | ⟨g', cap', cur', hv', _, hg', _⟩
    · rw [hv'] at h2; cases h2
    · rw [hv] at h1
      rw [hv'] at h2
      have e1 : g = k := by simpa [Value.ownBlock] using h1
      have e2 : g' = k := by simpa [Value.ownBlock] using h2
      subst e1 e2
      rw [hg] at hg'
      cases hg'
      exact hE rfl
theorem OwnS.kept {α : Type} {E : TypeId} {size : Nat} {cs : α → List Value} {B : Nat} {w w' : World} {v : Value} {xs : List α} {row : Option Nat} (h : OwnS E size cs B w v xs) (hg : w.grownBy w' row) (hn : ∀ k, row = some k → v.ownBlock ≠ some k) : OwnS E size cs B w' v xs := by
  cases row with
  | none => exact h.grew ((Grew.refl [] w).grown hg (fun i h => by cases h)) (fun k _ => by simp)
  | some g => exact h.grew (Grew.ofGrown hg) (fun k hk hm => by simp at hm; subst hm; exact hn k rfl hk)
def DoP (g gd gm h B N : Nat) (D : Dm) (w : World) (e : Ending) (w' : World) : Prop :=
  ∃ D', e = .returned (.bool true) ∧ Dk w' g gd gm D' ∧ Rd2 w' B h (N + 41) D' ∧ D'.dur.length = D.dur.length ∧ D'.writes ≤ D.writes + 1 ∧ Grew [g, gd, gm, h] w w'
theorem DoP.mk {g gd gm h B N : Nat} {D : Dm} {w w' : World} (D' : Dm) (h1 : Dk w' g gd gm D') (h2 : Rd2 w' B h (N + 41) D') (h3 : D'.dur.length = D.dur.length) (h4 : D'.writes ≤ D.writes + 1) (h5 : Grew [g, gd, gm, h] w w') : DoP g gd gm h B N D w (.returned (.bool true)) w' := ⟨D', rfl, h1, h2, h3, h4, h5⟩
/-- what an act's walk begins with -/
structure DoIn (ea : Nat → Addr) (g gd gm h B N : Nat) (D : Dm) (va : Option Addr) (vc : Nat) (bs : List UInt8) (ka : Option Addr) (kc : Nat) (ks : List Int) (ta : Option Addr) (tc : Nat) (ts : List Int) (w : World) : Prop where
  hk : Dk w g gd gm D
  hr : Rd2 w B h N D
  hB : B ≤ w.heap.size
  hN : N + 41 ≤ 1000000
  hw : D.writes + 1 ≤ 1000000
  hl : bs.length ≤ 100
  hkl : ks.length ≤ 20
  htl : ts.length ≤ 20
  hkb : inI ks
  htb : inI ts
  hvc : bs.length ≤ 9223372036854775807
  ha : ∀ W, Grew [g, gd, gm, h] w W → ErrsAll ea W ∧ RowB W (.slice va bs.length vc) bs ∧ RowL IV W (.slice ka ks.length kc) ks ∧ RowL IV W (.slice ta ts.length tc) ts
section
variable {ea : Nat → Addr} {g gd gm h B N : Nat} {D : Dm} {va : Option Addr} {vc : Nat} {bs : List UInt8} {ka : Option Addr} {kc : Nat} {ks : List Int} {ta : Option Addr} {tc : Nat} {ts : List Int} {w : World}
theorem DoIn.grew {W : World} {D' : Dm} {N' : Nat} (i : DoIn ea g gd gm h B N D va vc bs ka kc ks ta tc ts w) (hg : Grew [g, gd, gm, h] w W) (hk : Dk W g gd gm D') (hr : Rd2 W B h N' D') (hN : N' + 41 ≤ 1000000) (hw : D'.writes + 1 ≤ 1000000) : DoIn ea g gd gm h B N' D' va vc bs ka kc ks ta tc ts W :=
  ⟨hk, hr, Nat.le_trans i.hB hg.size, hN, hw, i.hl, i.hkl, i.htl, i.hkb, i.htb, i.hvc, fun W' hW' => i.ha W' (hg.trans hW')⟩
theorem DoIn.stays {W : World} (i : DoIn ea g gd gm h B N D va vc bs ka kc ks ta tc ts w) (hb : Below w.heap.size w W) : DoIn ea g gd gm h B N D va vc bs ka kc ks ta tc ts W := i.grew (Grew.ofBelow hb) (i.hk.stays hb) (i.hr.stays hb) i.hN i.hw
/-- the box that the act lies in -/
theorem DoIn.box (i : DoIn ea g gd gm h B N D va vc bs ka kc ks ta tc ts w) (ak an : Int) : ∃ W1, W1 = w.alloc (.cells #[.int .i64 ak, .int .i64 an, .slice va bs.length vc, .slice ka ks.length kc, .slice ta ts.length tc] 37) ∧ DoIn ea g gd gm h B N D va vc bs ka kc ks ta tc ts W1 ∧
    CellsAt W1 w.heap.size 37 #[.int .i64 ak, .int .i64 an, .slice va bs.length vc, .slice ka ks.length kc, .slice ta ts.length tc] ∧ ¬ w.heap.size ∈ [g, gd, gm, h] ∧ Grew [g, gd, gm, h] w W1 ∧ W1.heap.size = w.heap.size + 1 := by
  have hb : Below w.heap.size w (w.alloc (.cells #[.int .i64 ak, .int .i64 an, .slice va bs.length vc, .slice ka ks.length kc, .slice ta ts.length tc] 37)) := (Below.refl _ _).alloc (Nat.le_refl _) _
  refine ⟨_, rfl, i.stays hb, CellsAt.new _ _ _, ?_, Grew.ofBelow hb, by simp⟩
  have h1 := i.hk.lt
  have h2 := i.hr.lt
  simp
  omega
/-- nothing is done -/
theorem DoIn.idle (i : DoIn ea g gd gm h B N D va vc bs ka kc ks ta tc ts w) {W W' : World} (hg : Grew [g, gd, gm, h] W w) : DoP g gd gm h B N D W (.returned (.bool true)) w := DoP.mk D i.hk (i.hr.mono (by omega) i.hN) rfl (by omega) hg
abbrev DoCall (g h : Nat) (ak an : Int) (va : Option Addr) (vc : Nat) (bs : List UInt8) (ka : Option Addr) (kc : Nat) (ks : List Int) (ta : Option Addr) (tc : Nat) (ts : List Int) (w : World) (Q : Ending → World → Prop) : Prop := Calls Tryd.prog 14 #[.pointer (some ⟨g, 0, none⟩), .pointer (some ⟨h, 0, none⟩), .agg #[.int .i64 ak, .int .i64 an, .slice va bs.length vc, .slice ka ks.length kc, .slice ta ts.length tc]] w Q
theorem do_else (i : DoIn ea g gd gm h B N D va vc bs ka kc ks ta tc ts w) {ak an : Int} (h0 : ak ≠ 0) (h1 : ak ≠ 1) (h2 : ak ≠ 2) (h3 : ak ≠ 3) (h4 : ak ≠ 4) :
    DoCall g h ak an va vc bs ka kc ks ta tc ts w (DoP g gd gm h B N D w) := by
  obtain ⟨W1, hW1, i1, hcP, hn, hg1, hs1⟩ := i.box ak an
  have HZ := Lib.hid (i1.idle (W' := w) hg1)
  rw [hW1] at HZ
  clear i i1 hcP hn hg1 hs1 hW1
  go_enter Tryd.func14, Tryd.ntmps14
  go_wp2_with fail
  go_ret
  exact HZ.out
set_option maxRecDepth 100000 in
set_option maxHeartbeats 2000000 in
theorem do_sync (i : DoIn ea g gd gm h B N D va vc bs ka kc ks ta tc ts w) {an : Int} :
    DoCall g h 2 an va vc bs ka kc ks ta tc ts w (DoP g gd gm h B N D w) := by
  obtain ⟨W1, hW1, i1, hcP, hn, hg1, hs1⟩ := i.box 2 an
  have hS := sync_any ea i1.hk (i1.ha W1 (Grew.refl _ _)).1.e17
  rw [hW1] at hS
  have HS := Lib.hid hS
  have HI := Lib.hid i1
  have HG1 := Lib.hid hg1
  have HW1 := Lib.hid hW1
  clear i i1 hcP hn hg1 hs1 hW1 hS
  go_enter Tryd.func14, Tryd.ntmps14
  go_wp2_with fail
  refine HS.out.mono ?_
  rintro e w2 ⟨rfl, hk2, hg2⟩
  rw [← HW1.out] at hg2
  have hg2' : Grew [g, gd, gm, h] W1 w2 := hg2.mono (by simp)
  have hN := num_any ea (syncK D) (syncK_le D) w2 (HI.out.ha w2 hg2').1
  have hr2 := HI.out.hr.past HI.out.hk hg2
  have HN := Lib.hid hN
  have HR2 := Lib.hid hr2
  have HK2 := Lib.hid hk2
  have HG2 := Lib.hid hg2'
  clear HS hk2 hg2 hg2' hN hr2
  go_wp2_with fail
  refine HN.out.mono ?_
  rintro e w3 ⟨rfl, hb3⟩
  have hr3 := HR2.out.stays hb3
  have hk3 := HK2.out.stays hb3
  have hg3 := HG2.out.add hb3
  have hB3 : B ≤ w3.heap.size := Nat.le_trans HI.out.hB hg3.size
  have HRS := Lib.hid (rsync_any hr3 hB3)
  have HR3 := Lib.hid hr3
  have HK3 := Lib.hid hk3
  have HG3 := Lib.hid hg3
  clear HN HR2 HK2 HG2 hb3 hr3 hk3 hg3 hB3
  go_wp2_with fail
  refine HRS.out.mono ?_
  rintro e w4 ⟨rfl, hr4, hg4⟩
  have hk4 := HK3.out.past HR3.out hg4
  have hG4 := HG3.out.trans (hg4.mono (by simp))
  have hlen : (syncM D).dur.length = D.dur.length := by
    unfold syncM
    split
    · rfl
    · exact flushV_len D
  have hwr : (syncM D).writes ≤ D.writes + 1 := by
    unfold syncM
    split <;> simp
  have HZ : Hid (DoP g gd gm h B N D w (.returned (.bool true)) w4) := DoP.mk _ hk4 (hr4.mono (by omega) HI.out.hN) hlen hwr ((Grew.ofBelow (by rw [HW1.out]; exact (Below.refl _ _).alloc (Nat.le_refl _) _)).trans hG4)
  have bK : ((syncK D : Int) == syncK D) = true := by simp
  clear HRS HR3 HK3 HG3 hk4 hr4 hg4 hG4 hlen hwr HI HW1
  go_wp2_with fail
  go_ret
  exact HZ.out
set_option maxRecDepth 100000 in
set_option maxHeartbeats 2000000 in
theorem do_fuse (i : DoIn ea g gd gm h B N D va vc bs ka kc ks ta tc ts w) {an : Int} (hn1 : -9223372036854775808 ≤ an) (hn2 : an ≤ 9223372036854775807) :
    DoCall g h 3 an va vc bs ka kc ks ta tc ts w (DoP g gd gm h B N D w) := by
  obtain ⟨W1, hW1, i1, hcP, hn, hg1, hs1⟩ := i.box 3 an
  have hF := fuse_any i1.hk (n := an) hn1 hn2
  rw [hW1] at hF
  have HF := Lib.hid hF
  have HI := Lib.hid i1
  have HG1 := Lib.hid hg1
  have HW1 := Lib.hid hW1
  have HCP := Lib.hid hcP
  have hne : ¬ w.heap.size = h := by have := hn; simp at this; omega
  have hne' : ¬ h = w.heap.size := by omega
  clear i i1 hcP hn hg1 hs1 hW1 hF
  obtain ⟨an2, ha2⟩ : ∃ a, a = an := ⟨_, rfl⟩
  have HA2 := Lib.hid ha2
  clear ha2
  obtain ⟨fv, hfv⟩ : ∃ fv, fv = max an (-1) := ⟨_, rfl⟩
  have HFV := Lib.hid hfv
  have hmx : (-1 < an ∧ fv = an) ∨ (an = -1 ∧ fv = -1) ∨ (an < -1 ∧ fv = -1) := by omega
  clear hfv
  rcases hmx with ⟨hpf, hh⟩ | ⟨rfl, hh⟩ | ⟨hpf, hh⟩
  all_goals
    have HH := Lib.hid hh
    clear hh
    go_enter Tryd.func14, Tryd.ntmps14
    go_wp2_with fail
    refine HF.out.mono ?_
    rintro e w2 ⟨rfl, hk2, hg2⟩
    rw [← HW1.out] at hg2
    have hG2 := Grew.ofGrown hg2
    have hr2 := HI.out.hr.past HI.out.hk (hG2.mono (by simp))
    obtain ⟨c23, f23⟩ := hr2.c3
    have hr3 := hr2.setFuse an2
    have hG3 : Grew [h] w2 (w2.setCell ⟨h, 3, none⟩ (.int .i64 fv)) := (Grew.refl [h] w2).setCell (p := ⟨h, 3, none⟩) (.inl (by simp)) _
    rw [HA2.out, ← HFV.out] at hr3
    have hk3 := hk2.past hr2 hG3
    have hGG := (hG2.mono (S' := [g, gd, gm, h]) (by simp)).trans (hG3.mono (by simp))
    have HZ := Lib.hid (DoP.mk (N := N) (w := w) (D := D) _ hk3 (hr3.mono (by omega) HI.out.hN) (by rw [fuseM_dur]) (by rw [fuseM_writes]; omega) (HG1.out.trans hGG))
    rw [HH.out] at HZ
    clear hk2 hg2 hG2 hr2 hr3 hG3 hk3 hGG HI HG1 HW1 HF HCP
    go_wp2_with fail
    go_ret
    exact HZ.out
end
end Go.Proofs.YtalebgnnlgcglaaDoor
