/- The walk of OctetsOrder: all parts joined, and which bytes come first. -/
import Derived.Test.YtjincjgapjekeaaDoorAlive01
import Derived.Test.YtjincjgapjekeaaDoorJoin
import Derived.Test.YtjincjgapjekeaaDoorBytes
import Derived.Deep.RegionHeld3
namespace Go.Proofs.YtjincjgapjekeaaDoor
open Go Go.RowKit
theorem joined3 (x y z : Value) (a b c : List UInt8) : joined [(x, a), (y, b), (z, c)] = a ++ b ++ c := by simp [joined]
theorem row3 (w : World) (T : TypeId) (x y z : Value) (a b c : List UInt8) : RowL Prod.fst (w.alloc (.cells #[x, y, z] T)) (.slice (some ⟨w.heap.size, 0, none⟩) 3 3) [(x, a), (y, b), (z, c)] := by
  have hct := CellsAt.new w #[x, y, z] T
  refine .inr ⟨w.heap.size, 0, 3, rfl, Nat.le_refl _, by decide, hct.lt, fun j u hu => ?_⟩
  rw [Nat.zero_add]
  exact hct.cell j (by simpa using hu)
set_option maxRecDepth 100000 in
set_option maxHeartbeats 1000000 in
theorem walkOctetsOrder (w : World) (va : Value) (a : List UInt8) (hra : RowB w va a) (vb : Value) (b : List UInt8) (hrb : RowB w vb b) (vc : Value) (c : List UInt8) (hrc : RowB w vc c) (ea : Nat → Addr) (he1 : ErrAt w 2 (ea 1)) (he2 : ErrAt w 0 (ea 2)) :
    Calls Tryd.prog 4 #[va, vb, vc] w fun e w' => e = .returned (.bool true) ∧ Below w.heap.size w w' := by
  obtain ⟨aa, ac, rfl, -, -⟩ := hra.gen.shape
  obtain ⟨ba, bc, rfl, -, -⟩ := hrb.gen.shape
  obtain ⟨ca, cc, rfl, -, -⟩ := hrc.gen.shape
  have HA := Lib.hid (alive01 ea w he1 he2)
  clear he1 he2
  go_enter Tryd.func4, Tryd.ntmps4
  go_wp2_with fail
  refine HA.out.mono ?_
  rintro e w1 ⟨rfl, hb1⟩
  clear HA
  by_cases hl : 300 < a.length ∨ 300 < b.length ∨ 300 < c.length
  · clear hra hrb hrc
    by_cases h1 : 300 < a.length
    · go_wp2_with fail
      go_ret
      exact ⟨rfl, hb1⟩
    · by_cases h2 : 300 < b.length
      · go_wp2_with fail
        go_ret
        exact ⟨rfl, hb1⟩
      · have h3 : 300 < c.length := by omega
        go_wp2_with fail
        go_ret
        exact ⟨rfl, hb1⟩
  · have h1 : a.length ≤ 300 := by omega
    have h2 : b.length ≤ 300 := by omega
    have h3 : c.length ≤ 300 := by omega
    have hra := hra.stays hb1
    have hrb := hrb.stays hb1
    have hrc := hrc.stays hb1
    have HB := Lib.hid (bytes_any _ a w1 hra (by omega))
    clear hl
    go_wp2_with fail
    refine HB.out.mono ?_
    rintro e w2 ⟨v7, rfl, hm2, hb2⟩
    clear HB
    have hm2' := hm2
    obtain ⟨g7, rfl, _, _, _⟩ := hm2'
    have hra := hra.stays hb2
    have hrb := hrb.stays hb2
    have hrc := hrc.stays hb2
    have hbe2 := hb1.trans (hb2.mono hb1.size)
    have hbn : ∀ T, Below w2.heap.size w2 (w2.alloc (.cells #[(.slice (some ⟨g7, 0, none⟩) a.length (a.length + 6)), .slice ba b.length bc, .slice ca c.length cc] T)) := fun T => (Below.refl _ _).alloc (Nat.le_refl _) _
    have hJ := fun T => join_any (.slice (some ⟨w2.heap.size, 0, none⟩) 3 3) [((.slice (some ⟨g7, 0, none⟩) a.length (a.length + 6)), a), (.slice ba b.length bc, b), (.slice ca c.length cc, c)] (w2.alloc (.cells #[(.slice (some ⟨g7, 0, none⟩) a.length (a.length + 6)), .slice ba b.length bc, .slice ca c.length cc] T)) (row3 w2 T (.slice (some ⟨g7, 0, none⟩) a.length (a.length + 6)) _ _ a b c)
      (fun p hp => by
        simp only [List.mem_cons, List.not_mem_nil, or_false] at hp
        rcases hp with rfl | rfl | rfl
        · exact hm2.row.stays (hbn T)
        · exact hrb.stays (hbn T)
        · exact hrc.stays (hbn T)) (by rw [joined3]; simp; omega) (by simp)
    rw [joined3] at hJ
    have HJ := Lib.hid hJ
    have HBN := Lib.hid hbn
    clear hJ hbn hb1 hb2
    go_wp2_with fail
    refine (HJ.out _).mono ?_
    rintro e w3 ⟨v8, rfl, ho3, hb3⟩
    have hb23 := (HBN.out 22).trans (hb3.mono (HBN.out _).size)
    have hra := hra.stays hb23
    have hrb := hrb.stays hb23
    have hrc := hrc.stays hb23
    have hm3 := hm2.stays hb23
    have hbe3 := hbe2.trans (hb23.mono hbe2.size)
    have sj := convert_str ho3.row
    have sa := convert_str hra
    have sb := convert_str hrb
    have sc := convert_str hrc
    have s1 := str_add a b (by omega)
    have s2 := str_add (a ++ b) c (by simp; omega)
    have HJ0 := Lib.hid (join_any (.slice none 0 0) [] w3 (RowL.nil _) (fun p hp => by cases hp) (by simp [joined]) (by simp))
    clear HJ HBN ho3 hb3 hb23 hbe2 hm2
    go_wp2_with fail
    refine HJ0.out.mono ?_
    rintro e w4 ⟨v44, rfl, ho4, hb4⟩
    obtain ⟨ja, jc, rfl, -, -⟩ := ho4.row.gen.shape
    rw [show (joined []).length = 0 from rfl]
    have hra := hra.stays hb4
    have hrb := hrb.stays hb4
    have hm4 := hm3.stays hb4
    have hbe4 := hbe3.trans (hb4.mono hbe3.size)
    have HK := Lib.hid (kept_any _ (.slice (some ⟨g7, 0, none⟩) a.length (a.length + 6)) _ a w4 hm4 hra (by omega))
    clear HJ0 ho4 hb4 sj sa sb sc s1 s2 hrc hbe3 hm3
    go_wp2_with fail
    refine HK.out.mono ?_
    rintro e w5 ⟨rfl, rfl⟩
    have HR := Lib.hid (rcompare_any _ _ a b w4 hra hrb (by omega))
    clear HK hm4
    go_wp2_with fail
    refine HR.out.mono ?_
    rintro e w5 ⟨rfl, hb5⟩
    have hra := hra.stays hb5
    have hrb := hrb.stays hb5
    have hbe5 := hbe4.trans (hb5.mono hbe4.size)
    clear HR hb5 hbe4
    have hS : ∀ w', Below w5.heap.size w5 w' → Below w5.heap.size w5 w' ∧ (convert 22 9 (.slice aa a.length ac)).run Tryd.prog w' = .ok (.string (strB a)) w' ∧ (convert 22 9 (.slice ba b.length bc)).run Tryd.prog w' = .ok (.string (strB b)) w' :=
      fun w' hb => ⟨hb, convert_str (hra.stays hb), convert_str (hrb.stays hb)⟩
    have HS := Lib.hid hS
    have hC1 := Lib.hid (fun w' (hb : Below w5.heap.size w5 w') => ocompare_any _ _ a b w' (hra.stays hb) (hrb.stays hb))
    have hC2 := Lib.hid (fun w' (hb : Below w5.heap.size w5 w') => ocompare_any _ _ b a w' (hrb.stays hb) (hra.stays hb))
    have hE := Lib.hid (fun w' (hb : Below w5.heap.size w5 w') => oequal_any _ _ a b w' (hra.stays hb) (hrb.stays hb))
    have hz := cmpB_eq a b
    have hsw := cmpB_swap a b
    have sq := strB_eqL a b
    have sq2 := strB_eq a b
    have hbd : Below w5.heap.size w5 w5.drew := (Below.refl _ _).drew
    clear hra hrb hS
    have hcase : (cmpB a b = -1 ∧ cmpB b a = 1 ∧ decide (a = b) = false) ∨ (cmpB a b = 0 ∧ cmpB b a = 0 ∧ decide (a = b) = true) ∨ (cmpB a b = 1 ∧ cmpB b a = -1 ∧ decide (a = b) = false) := by
      rcases cmpB_mem a b with h | h | h
      · refine .inl ⟨h, by rw [hsw, h]; rfl, decide_eq_false fun e => ?_⟩
        rw [hz.2 e] at h; cases h
      · exact .inr (.inl ⟨h, by rw [hsw, h]; rfl, decide_eq_true (hz.1 h)⟩)
      · refine .inr (.inr ⟨h, by rw [hsw, h], decide_eq_false fun e => ?_⟩)
        rw [hz.2 e] at h; cases h
    clear hz hsw
    generalize cmpB a b = k at *
    generalize cmpB b a = k2 at *
    generalize decide (a = b) = D at *
    rcases hcase with ⟨rfl, rfl, rfl⟩ | ⟨rfl, rfl, rfl⟩ | ⟨rfl, rfl, rfl⟩
    all_goals
      go_wp2_with fail
      have wn0 : IntKind.i64.wrap 0 = 0 := by decide
      have wn1 : IntKind.i64.wrap 1 = 1 := by decide
      have wn2 : IntKind.i64.wrap (-1) = -1 := by decide
      go_region_held3 (fun w' => Below w5.heap.size w5 w' ∧ (convert 22 9 (.slice aa a.length ac)).run Tryd.prog w' = .ok (.string (strB a)) w' ∧ (convert 22 9 (.slice ba b.length bc)).run Tryd.prog w' = .ok (.string (strB b)) w')
        (exact HS.out _ (by assumption))
        ((first
          | (go_at_call 24; refine (hC1.out _ (by assumption)).mono ?_; rintro e wA ⟨rfl, rfl⟩)
          | (go_at_call 24; refine (hC2.out _ (by assumption)).mono ?_; rintro e wA ⟨rfl, rfl⟩)
          | (go_at_call 25; refine (hE.out _ (by assumption)).mono ?_; rintro e wA ⟨rfl, rfl⟩)))
    all_goals go_wp2_with fail
    all_goals go_ret
    all_goals exact ⟨rfl, hbe5.trans (Below.mono (by first | (exact (by assumption : _ ∧ _).1) | assumption) hbe5.size)⟩
end Go.Proofs.YtjincjgapjekeaaDoor
