/- The program's order of values: Compare, Same. -/
import Derived.Test.YtcjflglpkpkflaaDoorVg
namespace Go.Proofs.YtcjflglpkpkflaaDoor
open Go Go.RowKit
set_option linter.unusedVariables false
set_option maxRecDepth 100000 in
set_option maxHeartbeats 8000000 in
theorem compare_any : ∀ (v : V), CmpC v := by
  intro v
  induction v using V.ind with
  | h v ihf ihl ihp =>
    intro v' a a' S S' w hr hr'
    obtain ⟨k, n, t, fs, r, ls, ps⟩ := v
    obtain ⟨fa, fc, la, lc, pa, pc⟩ := a
    obtain ⟨k2, n2, t2, fs2, r2, ls2, ps2⟩ := v'
    obtain ⟨fa2, fc2, la2, lc2, pa2, pc2⟩ := a'
    rw [vG_lit, vG_lit]
    have HF : Hid (∀ W, Below w.heap.size w W → Calls _ _ _ W _) := fun W hb => cmpFields_any (show ∀ p ∈ fs, CmpC p.2 from ihf) (hr.stays hb) (hr'.stays hb)
    have HL : Hid (∀ W, Below w.heap.size w W → Calls _ _ _ W _) := fun W hb => cmpList_any (show ∀ x ∈ ls, CmpC x from ihl) (hr.stays hb) (hr'.stays hb)
    have HP : Hid (∀ W, Below w.heap.size w W → Calls _ _ _ W _) := fun W hb => cmpPairs_any (show ∀ p ∈ ps, CmpC p.1 ∧ CmpC p.2 from ihp) (hr.stays hb) (hr'.stays hb)
    have HZ : Hid (cmpV (.mk k n t fs r ls ps) (.mk k2 n2 t2 fs2 r2 ls2 ps2) = orI (sgnI k k2) (if k = 1 then sgnI n n2 else if k = 2 then cmpB t t2 else if k = 3 then orI (cmpF fs fs2) (cmpB r r2) else if k = 4 then cmpL ls ls2 else if k = 5 then cmpP ps ps2 else 0)) := by show _ = _; rw [cmpV]
    have hba : Below w.heap.size w ((w.alloc (.cells #[.int .i64 k, .int .u64 (n : Int), .string (strB t), .slice fa fs.length fc, .string (strB r), .slice la ls.length lc, .slice pa ps.length pc] 27)).alloc (.cells #[.int .i64 k2, .int .u64 (n2 : Int), .string (strB t2), .slice fa2 fs2.length fc2, .string (strB r2), .slice la2 ls2.length lc2, .slice pa2 ps2.length pc2] 27)) := ((Below.refl _ _).alloc (Nat.le_refl _) _).alloc (by simp) _
    have HBA := Lib.hid hba
    clear ihf ihl ihp hr hr' hba
    generalize cmpV (.mk k n t fs r ls ps) (.mk k2 n2 t2 fs2 r2 ls2 ps2) = R at HZ ⊢
    by_cases hk : k = k2
    · subst hk
      have t0 : (k != k) = false := by simp
      have hs0 : sgnI k k = 0 := sgnI_zero.2 rfl
      have HZ2 : Hid (R = (if k = 1 then sgnI n n2 else if k = 2 then cmpB t t2 else if k = 3 then orI (cmpF fs fs2) (cmpB r r2) else if k = 4 then cmpL ls ls2 else if k = 5 then cmpP ps ps2 else 0)) := by have := HZ.out; rw [hs0] at this; exact this
      clear HZ hs0
      by_cases k1 : k = 1
      · subst k1
        rw [if_pos rfl] at HZ2
        go_enter Tryd.func77, Tryd.ntmps77
        go_wp2_with (first | (go_at_call 79; refine (cmpN_any _ _ _).mono ?_; rintro e w1 ⟨rfl, rfl⟩))
        go_ret
        exact ⟨congrArg (fun z => Ending.returned (Value.int .i64 z)) HZ2.out.symm, HBA.out⟩
      · rw [if_neg k1] at HZ2
        have f1 : (k == 1) = false := by simpa using k1
        clear k1
        by_cases k2 : k = 2
        · subst k2
          rw [if_pos rfl] at HZ2
          go_enter Tryd.func77, Tryd.ntmps77
          go_wp2_with (first | (go_at_call 80; refine (cmpS_any _ _ _).mono ?_; rintro e w1 ⟨rfl, rfl⟩))
          go_ret
          exact ⟨congrArg (fun z => Ending.returned (Value.int .i64 z)) HZ2.out.symm, HBA.out⟩
        · rw [if_neg k2] at HZ2
          have f2 : (k == 2) = false := by simpa using k2
          clear k2
          by_cases k3 : k = 3
          · subst k3
            rw [if_pos rfl] at HZ2
            have hcx : CellsAt ((w.alloc (.cells #[.int .i64 3, .int .u64 (n : Int), .string (strB t), .slice fa fs.length fc, .string (strB r), .slice la ls.length lc, .slice pa ps.length pc] 27)).alloc (.cells #[.int .i64 3, .int .u64 (n2 : Int), .string (strB t2), .slice fa2 fs2.length fc2, .string (strB r2), .slice la2 ls2.length lc2, .slice pa2 ps2.length pc2] 27)) w.heap.size 27 #[.int .i64 3, .int .u64 (n : Int), .string (strB t), .slice fa fs.length fc, .string (strB r), .slice la ls.length lc, .slice pa ps.length pc] := (CellsAt.new w _ _).stays ((Below.refl _ _).alloc (Nat.le_refl _) _)
            have hcy := CellsAt.new (w.alloc (.cells #[.int .i64 3, .int .u64 (n : Int), .string (strB t), .slice fa fs.length fc, .string (strB r), .slice la ls.length lc, .slice pa ps.length pc] 27)) #[.int .i64 3, .int .u64 (n2 : Int), .string (strB t2), .slice fa2 fs2.length fc2, .string (strB r2), .slice la2 ls2.length lc2, .slice pa2 ps2.length pc2] 27
            rw [show (w.alloc (.cells #[.int .i64 3, .int .u64 (n : Int), .string (strB t), .slice fa fs.length fc, .string (strB r), .slice la ls.length lc, .slice pa ps.length pc] 27)).heap.size = w.heap.size + 1 by simp] at hcy
            have HCX := Lib.hid hcx
            have HCY := Lib.hid hcy
            clear hcx hcy HL HP
            go_enter Tryd.func77, Tryd.ntmps77
            go_wp2_with fail
            generalize (w.alloc (.cells #[.int .i64 3, .int .u64 (n : Int), .string (strB t), .slice fa fs.length fc, .string (strB r), .slice la ls.length lc, .slice pa ps.length pc] 27)).alloc (.cells #[.int .i64 3, .int .u64 (n2 : Int), .string (strB t2), .slice fa2 fs2.length fc2, .string (strB r2), .slice la2 ls2.length lc2, .slice pa2 ps2.length pc2] 27) = W1 at HBA HCX HCY ⊢
            obtain ⟨g, hg⟩ : ∃ g, g = w.heap.size := ⟨_, rfl⟩
            rw [← hg] at HCX HCY ⊢
            clear hg
            have HS : Hid (∀ W, Below W1.heap.size W1 W → Below W1.heap.size W1 W ∧ W.cell? ⟨g, 3, none⟩ = some (.slice fa fs.length fc) ∧ W.cell? ⟨g, 4, none⟩ = some (.string (strB r)) ∧ W.cell? ⟨g + 1, 3, none⟩ = some (.slice fa2 fs2.length fc2) ∧ W.cell? ⟨g + 1, 4, none⟩ = some (.string (strB r2))) := fun W hb => by
              have h1 := HCX.out.stays hb
              have h2 := HCY.out.stays hb
              exact ⟨hb, h1.cell 3 rfl, h1.cell 4 rfl, h2.cell 3 rfl, h2.cell 4 rfl⟩
            have HC1 : Hid (∀ W, Below W1.heap.size W1 W → Calls Tryd.prog 82 #[.slice fa fs.length fc, .slice fa2 fs2.length fc2, .func (.func 83) #[] #[]] W
                fun e w' => e = .returned (.int .i64 (cmpF fs fs2)) ∧ Below W.heap.size W w') := fun W hb => HF.out W (HBA.out.trans (hb.mono HBA.out.size))
            have hd0 : Below W1.heap.size W1 W1 := Below.refl _ _
            have hd1 : Below W1.heap.size W1 W1.drew := hd0.drew
            clear HF HCX HCY
            go_region_held3 (fun W => Below W1.heap.size W1 W ∧ W.cell? ⟨g, 3, none⟩ = some (.slice fa fs.length fc) ∧ W.cell? ⟨g, 4, none⟩ = some (.string (strB r)) ∧ W.cell? ⟨g + 1, 3, none⟩ = some (.slice fa2 fs2.length fc2) ∧ W.cell? ⟨g + 1, 4, none⟩ = some (.string (strB r2)))
              (first | exact HS.out _ (by assumption) | exact HS.out _ (below_al (by assumption) _) | exact HS.out _ (below_al (by assumption) _).drew)
              ((first
                | (go_at_call 82; (with_reducible refine (HC1.out _ (by assumption)).mono ?_); rintro e w6 ⟨rfl, hb6⟩; have hb7 := hd1.trans (hb6.mono hd1.size))
                | (go_at_call 80; (with_reducible refine (cmpS_any _ _ _).mono ?_); rintro e w5 ⟨rfl, rfl⟩)
                | (go_at_call 81; (with_reducible refine (orA_any _ _ _ _).mono ?_); rintro e w8 ⟨rfl, rfl⟩)
                | (go_at_call 81; (with_reducible refine (orD_any _ _ _ _).mono ?_); rintro e w8 ⟨rfl, rfl⟩)))
            all_goals go_wp2_with fail
            all_goals go_ret
            all_goals exact ⟨congrArg (fun z => Ending.returned (Value.int .i64 z)) HZ2.out.symm, HBA.out.trans (Below.mono (by first | exact (below_al hb7 _) | exact (below_al hb7 _).drew) HBA.out.size)⟩
          · rw [if_neg k3] at HZ2
            have f3 : (k == 3) = false := by simpa using k3
            clear k3
            by_cases k4 : k = 4
            · subst k4
              rw [if_pos rfl] at HZ2
              go_enter Tryd.func77, Tryd.ntmps77
              go_wp2_with fail
              refine (HL.out _ HBA.out).mono ?_
              rintro e w1 ⟨rfl, hb1⟩
              have HB1 := Lib.hid (HBA.out.trans (hb1.mono HBA.out.size))
              clear hb1 HF HL HP
              go_wp2_with fail
              go_ret
              exact ⟨congrArg (fun z => Ending.returned (Value.int .i64 z)) HZ2.out.symm, HB1.out⟩
            · rw [if_neg k4] at HZ2
              have f4 : (k == 4) = false := by simpa using k4
              clear k4
              by_cases k5 : k = 5
              · subst k5
                rw [if_pos rfl] at HZ2
                go_enter Tryd.func77, Tryd.ntmps77
                go_wp2_with fail
                refine (HP.out _ HBA.out).mono ?_
                rintro e w1 ⟨rfl, hb1⟩
                have HB1 := Lib.hid (HBA.out.trans (hb1.mono HBA.out.size))
                clear hb1 HF HL HP
                go_wp2_with fail
                go_ret
                exact ⟨congrArg (fun z => Ending.returned (Value.int .i64 z)) HZ2.out.symm, HB1.out⟩
              · rw [if_neg k5] at HZ2
                have f5 : (k == 5) = false := by simpa using k5
                clear k5
                go_enter Tryd.func77, Tryd.ntmps77
                go_wp2_with fail
                go_ret
                exact ⟨congrArg (fun z => Ending.returned (Value.int .i64 z)) HZ2.out.symm, HBA.out⟩
    · have t0 : (k != k2) = true := by simpa using hk
      have HZ2 : Hid (R = sgnI k k2) := by have := HZ.out; unfold orI at this; rwa [if_neg (fun h => hk (sgnI_zero.1 h))] at this
      clear hk HZ
      go_enter Tryd.func77, Tryd.ntmps77
      go_wp2_with (first | (go_at_call 78; refine (cmpI_any _ _ _).mono ?_; rintro e w1 ⟨rfl, rfl⟩))
      go_ret
      exact ⟨congrArg (fun z => Ending.returned (Value.int .i64 z)) HZ2.out.symm, HBA.out⟩
section
variable {k k2 : Int} {n n2 : Nat} {t r t2 r2 : List UInt8} {fs fs2 : List (Int × V)} {ls ls2 : List V} {ps ps2 : List (V × V)} {fa la pa fa2 la2 pa2 : Option Addr} {fc lc pc fc2 lc2 pc2 : Nat} {S S' : Nat → Prop} {w : World}
theorem compare_lit (hr : Rep S w (.mk k n t fs r ls ps) ⟨fa, fc, la, lc, pa, pc⟩) (hr' : Rep S' w (.mk k2 n2 t2 fs2 r2 ls2 ps2) ⟨fa2, fc2, la2, lc2, pa2, pc2⟩) :
    Calls Tryd.prog 77 #[.agg #[.int .i64 k, .int .u64 (n : Int), .string (strB t), .slice fa fs.length fc, .string (strB r), .slice la ls.length lc, .slice pa ps.length pc], .agg #[.int .i64 k2, .int .u64 (n2 : Int), .string (strB t2), .slice fa2 fs2.length fc2, .string (strB r2), .slice la2 ls2.length lc2, .slice pa2 ps2.length pc2]] w
      fun e w' => e = .returned (.int .i64 (cmpV (.mk k n t fs r ls ps) (.mk k2 n2 t2 fs2 r2 ls2 ps2))) ∧ Below w.heap.size w w' := CmpC.lit (compare_any _) hr hr'
end
end Go.Proofs.YtcjflglpkpkflaaDoor
