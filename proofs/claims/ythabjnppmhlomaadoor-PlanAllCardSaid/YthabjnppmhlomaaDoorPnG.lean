/- container/heap at the queue of trips: Push, Pop. -/
import Derived.Test.YthabjnppmhlomaaDoorPnF
namespace Go.Proofs.YthabjnppmhlomaaDoor
open Go Go.RowKit
set_option linter.unusedVariables false
/-- the queue as a heap: where it lies, its trips right -/
def QH (B F : Nat) (T : TypeId) (c0 c1 c2 : Value) (w : World) (v : Value) (Q : List TM) : Prop := QAt B F T c0 c1 c2 w v Q ∧ QOk F w v Q ∧ Hp leT Q Q.length
/-- behind a call: a heap of these trips, in its old block or a new one; else nothing turned -/
def QHP (B F : Nat) (T : TypeId) (c0 c1 c2 : Value) (w : World) (v : Value) (Q' : List TM) (w' : World) : Prop := ∃ v', QH B F T c0 c1 c2 w' v' Q' ∧ NewOrSame w v v' ∧ Grew (F :: v.ownBlock.toList) w w'
def PushP (B F : Nat) (T : TypeId) (c0 c1 c2 : Value) (w : World) (v : Value) (Q : List TM) (x : TM) (e : Ending) (w' : World) : Prop := e = .returned (.tuple #[]) ∧ ∃ Q', Q'.Perm (Q ++ [x]) ∧ QHP B F T c0 c1 c2 w v Q' w'
def PopP (B F : Nat) (T : TypeId) (c0 c1 c2 : Value) (w : World) (v : Value) (Q : List TM) (e : Ending) (w' : World) : Prop := ∃ x Q', e = .returned (.iface 56 (tG x)) ∧ (x :: Q').Perm Q ∧ (∀ q ∈ Q', leT x q) ∧ tOk (fun k => k = F ∨ v.ownBlock = some k) w' x ∧ QHP B F T c0 c1 c2 w v Q' w'
section
variable {B F : Nat} {T : TypeId} {c0 c1 c2 v : Value} {w : World} {Q : List TM}
theorem tOk.new {w w' : World} {v v' : Value} {x : TM} (h : tOk (fun k => k = F ∨ v.ownBlock = some k) w x) (hn : NewOrSame w v v') (hg : Grew (F :: v.ownBlock.toList) w w') : tOk (fun k => k = F ∨ v'.ownBlock = some k) w' x := by
  refine ⟨h.1, h.2.1, h.2.2.1, hg.row h.2.2.2.1 (fun k hk hm => ?_), fun k hk => ⟨fun hs => ?_, Nat.lt_of_lt_of_le (h.2.2.2.2 k hk).2 hg.size⟩⟩
  · refine (h.2.2.2.2 k hk).1 ?_
    rcases List.mem_cons.1 hm with e | e
    · exact .inl e
    · exact .inr (by simpa using e)
  · rcases hs with e | e
    · exact (h.2.2.2.2 k hk).1 (.inl e)
    · rcases hn k e with e2 | e2
      · exact (h.2.2.2.2 k hk).1 (.inr e2)
      · have := (h.2.2.2.2 k hk).2; omega
theorem QOk.new {w w' : World} {v v' : Value} (h : QOk F w v Q) (hn : NewOrSame w v v') (hg : Grew (F :: v.ownBlock.toList) w w') : QOk F w' v' Q := fun x hx => (h x hx).new hn hg
set_option maxRecDepth 100000 in
theorem hPush_any (h : QH B F T c0 c1 c2 w v Q) (x : TM) (hx : tOk (fun k => k = F ∨ v.ownBlock = some k) w x) (hl : Q.length ≤ 10000) :
    Calls Tryd.prog 39 #[.iface 78 (.pointer (some ⟨F, 3, none⟩)), .iface 56 (tG x)] w (PushP B F T c0 c1 c2 w v Q x) := by
  obtain ⟨h1, h2, h3⟩ := h
  have HC : Hid (Calls _ _ _ w _) := qPush_any h1 x (by omega)
  have mP := mPush ⟨F, 3, none⟩ w
  have HK := Lib.hid h2
  have HX := Lib.hid hx
  have HH := Lib.hid h3
  clear h1 h2 h3 hx
  go_enter Tryd.func39, Tryd.ntmps39
  go_wp2_with fail
  refine HC.out.mono ?_
  rintro e w1 ⟨rfl, v1, hq1, hn1, hg1⟩
  obtain ⟨hc1, ho1, h31, h41⟩ := hq1
  obtain ⟨g, c, rfl, -, hgl, -⟩ := ho1.block tC_len (by simp)
  have hlq : (Q ++ [x]).length = Q.length + 1 := by simp
  rw [hlq] at hc1 ho1 hn1
  have mL := mLen ⟨F, 3, none⟩ w1 (hc1.cell 3 rfl)
  have HQ1 : Hid (QAt B F T c0 c1 c2 w1 (.slice (some ⟨g, 0, none⟩) (Q.length + 1) c) (Q ++ [x])) := ⟨hc1, ho1, h31, h41⟩
  have HK1 : Hid (QOk F w1 (.slice (some ⟨g, 0, none⟩) (Q.length + 1) c) (Q ++ [x])) := fun y hy => by
    rcases List.mem_append.1 hy with hy | hy
    · exact (HK.out y hy).new hn1 hg1
    · rw [List.mem_singleton] at hy; subst hy; exact HX.out.new hn1 hg1
  have HU : Hid (Calls _ _ _ w1 _) := up_any HQ1.out HK1.out Q.length (by simp) (HH.out.push x) (by simp; omega)
  have HG1 := Lib.hid hg1
  have HN1 := Lib.hid hn1
  clear hc1 ho1 hlq hg1 hn1 mP HC
  go_wp2_with (first | (go_at_call 31; refine (qLen_any _ _ _ _).mono ?_; rintro e w2 ⟨rfl, rfl⟩))
  refine HU.out.mono ?_
  rintro e w2 ⟨rfl, Q2, hp2, hh2, ho2, hg2⟩
  clear HU mL
  go_wp2_with fail
  go_end0
  have hcF : CellsAt w2 F T #[c0, c1, c2, .slice (some ⟨g, 0, none⟩) (Q.length + 1) c] := CellsAt.grown HQ1.out.1 hg2 (fun h => by have := (ho2.lt g rfl).1; cases h; omega)
  exact ⟨rfl, Q2, hp2, _, ⟨⟨hcF, ho2, h31, Nat.le_trans h41 hg2.size⟩, (HK1.out.grown rfl hg2).perm hp2, hh2⟩, HN1.out, Grew.step (S' := [g]) HG1.out (Grew.ofGrown hg2) (fun i hi => by
    rw [List.mem_singleton] at hi
    subst hi
    rcases HN1.out i rfl with e | e
    · exact .inl (by rw [e]; simp)
    · exact .inr e)⟩
theorem pop_end {α : Type} {l m : List α} {n : Nat} {r : α} (hp : m.Perm l) (hl : l.length = n + 1) (hr : m[n]? = some r) : (r :: m.take n).Perm l := by
  have hml : m.length = n + 1 := hp.length_eq.trans hl
  have h1 : m = m.take n ++ [r] := by
    have := take_next hr
    rw [List.take_of_length_le (by omega)] at this
    exact this
  refine List.Perm.trans ?_ hp
  exact List.Perm.trans (List.perm_append_comm (l₁ := [r]) (l₂ := m.take n)) (List.Perm.of_eq h1.symm)
set_option maxRecDepth 100000 in
theorem hPop_any {n : Nat} (h : QH B F T c0 c1 c2 w v Q) (hn : Q.length = n + 1) (hl : Q.length ≤ 10000) :
    Calls Tryd.prog 32 #[.iface 78 (.pointer (some ⟨F, 3, none⟩))] w (PopP B F T c0 c1 c2 w v Q) := by
  obtain ⟨h1, h2, h3⟩ := h
  obtain ⟨hc1, ho1, h31, h41⟩ := h1
  obtain ⟨g, c, rfl, hBg, hgl, -⟩ := ho1.block tC_len (by intro e; rw [e] at hn; simp at hn)
  have mL := mLen ⟨F, 3, none⟩ w (hc1.cell 3 rfl)
  have mS := mSwap ⟨F, 3, none⟩ w (hc1.cell 3 rfl)
  have HSW : Hid (Calls _ _ _ w _) := qSwap_any ho1 0 n (by omega) (by omega) (by omega)
  have HC := Lib.hid hc1
  have HO := Lib.hid ho1
  have HK := Lib.hid h2
  have HH := Lib.hid h3
  have HN := Lib.hid hn
  have hni : ((Q.length : Int) - 1) = (n : Int) := by omega
  have hn5 : n < 10000 := by omega
  clear hc1 ho1 h2 h3 hn
  go_enter Tryd.func32, Tryd.ntmps32
  go_wp2_with (first | (go_at_call 31; refine (qLen_any _ _ _ _).mono ?_; rintro e w2 ⟨rfl, rfl⟩))
  refine HSW.out.mono ?_
  rintro e w1 ⟨rfl, ho1, hg1⟩
  have hcF1 : CellsAt w1 F T #[c0, c1, c2, .slice (some ⟨g, 0, none⟩) Q.length c] := CellsAt.grown HC.out hg1 (fun h => by cases h; omega)
  have hk1 : QOk F w1 (.slice (some ⟨g, 0, none⟩) Q.length c) (swp Q 0 n) := (HK.out.grown rfl hg1).perm (swp_perm Q 0 n)
  have HQ1 : Hid (QAt B F T c0 c1 c2 w1 (.slice (some ⟨g, 0, none⟩) Q.length c) (swp Q 0 n)) := ⟨hcF1, ho1, h31, Nat.le_trans h41 hg1.size⟩
  have HD : Hid (Calls _ _ _ w1 _) := down_any HQ1.out hk1 n (by rw [swp_len, HN.out]; omega) (HH.out.pop HN.out) (by rw [swp_len]; omega)
  have HG1 := Lib.hid hg1
  have HK1 := Lib.hid hk1
  clear ho1 hg1 hcF1 hk1 mL mS HSW
  go_wp2_with fail
  refine HD.out.mono ?_
  rintro e w2 ⟨⟨b, rfl⟩, Q2, hp2, hh2, he2, ho2, hg2⟩
  have hcF2 : CellsAt w2 F T #[c0, c1, c2, .slice (some ⟨g, 0, none⟩) Q.length c] := CellsAt.grown HQ1.out.1 hg2 (fun h => by cases h; omega)
  have hQ2l : Q2.length = n + 1 := by rw [hp2.length_eq, swp_len, HN.out]
  have hr0 : ∃ r, Q[0]? = some r := ⟨_, List.getElem?_eq_getElem (by rw [HN.out]; omega)⟩
  obtain ⟨r, hr0⟩ := hr0
  have hr2 : Q2[n]? = some r := by
    rw [he2, swp_get (by rw [HN.out]; omega) (by rw [HN.out]; omega), if_pos rfl, hr0]
  have HP2 : Hid (Q2.Perm Q) := hp2.trans (swp_perm Q 0 n)
  have HQ2 : Hid (QAt B F T c0 c1 c2 w2 (.slice (some ⟨g, 0, none⟩) Q.length c) Q2) := ⟨hcF2, ho2, h31, Nat.le_trans (Nat.le_trans h41 HG1.out.size) hg2.size⟩
  have hqp := qPop_any HQ2.out hQ2l hr2 (by omega)
  have HPO : Hid (Calls _ _ _ w2 _) := hqp
  have mP := mPop ⟨F, 3, none⟩ w2
  have HG2 := Lib.hid hg2
  have HH2 := Lib.hid hh2
  have HR0 := Lib.hid hr0
  have HR2 := Lib.hid hr2
  clear hqp hp2 hh2 he2 ho2 hg2 hcF2 hQ2l hr0 hr2 HD
  go_wp2_with fail
  refine HPO.out.mono ?_
  rintro e w3 ⟨rfl, v3, hq3, hn3, hg3⟩
  clear HPO mP
  go_wp2_with fail
  go_ret
  have hpp : (r :: Q2.take n).Perm Q := pop_end HP2.out HN.out HR2.out
  have hk2 : QOk F w2 (.slice (some ⟨g, 0, none⟩) Q.length c) Q := (HK.out.grown rfl HG1.out).grown rfl HG2.out
  have hgr : Grew (F :: (Value.slice (some ⟨g, 0, none⟩) Q.length c).ownBlock.toList) w w3 := by
    refine Grew.trans (Grew.mono (Grew.trans (Grew.ofGrown HG1.out) (Grew.ofGrown HG2.out)) (fun i hi => ?_)) hg3
    rw [List.mem_singleton] at hi
    rw [hi]; simp [Value.ownBlock]
  refine ⟨r, Q2.take n, rfl, hpp, fun q hq => ?_, ?_, v3, ⟨hq3, fun y hy => (hk2 y (hpp.mem_iff.1 (by simp [hy]))).new hn3 hg3, ?_⟩, fun k hk => ?_, hgr⟩
  · obtain ⟨i, hi⟩ := List.mem_iff_getElem?.1 (hpp.mem_iff.1 (by simp [hq] : q ∈ r :: Q2.take n))
    exact HH.out.root leT_trans leT_refl (Nat.le_refl _) HR0.out i q (List.getElem?_eq_some_iff.1 hi).1 hi
  · exact (hk2 r (hpp.mem_iff.1 (by simp))).grew hg3 (fun k hk => by
      rcases List.mem_cons.1 hk with e | e
      · exact .inl e
      · exact .inr (by simpa using e))
  · have hl2 : (Q2.take n).length = n := by simp; have := HP2.out.length_eq; have := HN.out; omega
    rw [hl2]
    exact fun k a b k0 hk ha hb => HH2.out k a b k0 hk (by rw [List.getElem?_take_of_lt (by omega)] at ha; exact ha) (by rw [List.getElem?_take_of_lt hk] at hb; exact hb)
  · rcases hn3 k hk with e | e
    · exact .inl e
    · exact .inr (Nat.le_trans (Nat.le_trans HG1.out.size HG2.out.size) e)
end
end Go.Proofs.YthabjnppmhlomaaDoor
