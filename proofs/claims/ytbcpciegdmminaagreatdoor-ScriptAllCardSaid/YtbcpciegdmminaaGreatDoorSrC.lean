/- Scripts, the document's: a text's parts, between signs. -/
import Derived.Test.YtbcpciegdmminaaGreatDoorSrB
namespace Go.Proofs.YtbcpciegdmminaaGreatDoor
open Go Go.RowKit
set_option linter.unusedVariables false
def lastX (xs : List Bs) (x : UInt8) : List Bs := xs.set (xs.length - 1) (xs.getD (xs.length - 1) [] ++ [x])
theorem lastX_cons (y : Bs) (z : Bs) (r : List Bs) (x : UInt8) : lastX (y :: z :: r) x = y :: lastX (z :: r) x := by
  unfold lastX
  simp only [List.length_cons, Nat.add_sub_cancel]
  rw [List.set_cons_succ, List.getD_cons_succ]
theorem spl_snoc (c x : UInt8) : ∀ l : Bs, spl c (l ++ [x]) = if x = c then spl c l ++ [[]] else lastX (spl c l) x
  | [] => by
    by_cases h : x = c
    · simp [spl, h]
    · simp [spl, h, lastX]
  | b :: l => by
    have ih := spl_snoc c x l
    have hne := spl_ne c l
    rw [List.cons_append, spl, ih, spl]
    obtain ⟨y, r, hxs⟩ := List.exists_cons_of_ne_nil hne
    rw [hxs]
    by_cases hb : b = c
    · rw [if_pos hb, if_pos hb]
      by_cases h : x = c
      · rw [if_pos h, if_pos h]; rfl
      · rw [if_neg h, if_neg h, lastX_cons]
    · rw [if_neg hb, if_neg hb]
      by_cases h : x = c
      · rw [if_pos h, if_pos h]; rfl
      · rw [if_neg h, if_neg h]
        cases r with
        | nil => rfl
        | cons z r => rw [lastX_cons, lastX_cons]
set_option maxRecDepth 100000 in
set_option maxHeartbeats 4000000 in
theorem rpart_any (s : Bs) (c : UInt8) (hl : s.length ≤ 1000000) (w : World) : Calls Tryz.prog 40 #[.string (strB s), .int .u8 ((c.toNat : Nat) : Int)] w fun e w' => ∃ g cap, e = .returned (.slice (some ⟨g, 0, none⟩) (spl c s).length cap) ∧ OwnL 9 SV w.heap.size w' (.slice (some ⟨g, 0, none⟩) (spl c s).length cap) (spl c s) ∧ Below w.heap.size w w' := by
  have hsz : (strB s).size = s.length := strB_size s
  have HO : Hid (OwnL 9 SV w.heap.size (w.alloc (.cells #[.string ⟨#[]⟩] 9)) (.slice (some ⟨w.heap.size, 0, none⟩) 1 1) (spl c (s.take 0))) := lit_own w (Nat.le_refl _) [[]] _ rfl (by simp)
  go_enter Tryz.func40, Tryz.ntmps40
  go_wp2_with fail
  go_loopw [5, 6] (fun v i wr => ∃ n : Nat, i = .int .i64 n ∧ n ≤ s.length ∧ OwnL 9 SV w.heap.size wr v (spl c (s.take n)) ∧ Below w.heap.size w wr) (fun _ i _ => s.length - (intOf i).toNat)
  case atStart => exact ⟨0, rfl, Nat.zero_le _, HO.out, (Below.refl _ _).alloc (Nat.le_refl _) _⟩
  case round =>
    obtain ⟨n, rfl, hn, how, hbe⟩ := hrel
    have hpl : (spl c (s.take n)).length ≤ 1000001 := by have := spl_len c (s.take n); rw [List.length_take] at this; omega
    have hne := spl_ne c (s.take n)
    have hle : ∀ y ∈ spl c (s.take n), y.length ≤ 1000000 := fun y hy => by have := spl_le c _ y hy; rw [List.length_take] at this; omega
    by_cases h1 : n < s.length
    · obtain ⟨x, hx⟩ : ∃ x, s[n]? = some x := ⟨_, List.getElem?_eq_getElem h1⟩
      have hix : ∀ h, (strB s)[n]'h = x := fun h => by
        have e := List.getElem?_eq_getElem h1
        rw [hx] at e
        exact (Option.some.inj e).symm
      have hT : s.take (n + 1) = s.take n ++ [x] := by rw [List.take_add_one, hx, Option.toList_some]
      have HS : Hid (spl c (s.take (n + 1)) = if x = c then spl c (s.take n) ++ [[]] else lastX (spl c (s.take n)) x) := by show _ = _; rw [hT, spl_snoc]
      have hxn : ((s.drop n).take 1) = [x] := by
        rw [List.drop_eq_getElem_cons h1]
        rw [List.getElem?_eq_getElem h1] at hx
        rw [Option.some.inj hx]; rfl
      have hcut : ∀ W, (Instr.slice 9 (.string (strB s)) (some (.int .i64 (n : Int))) (some (.int .i64 ((n : Int) + 1))) none).run Tryz.prog W = .ok (.string (strB [x])) W := fun W => by
        have h2 := run_slice_string (P := Tryz.prog) W 9 (strB s) .i64 .i64 (n : Int) ((n : Int) + 1) Tryz.underlying9 (by omega) (by omega) (by rw [hsz]; omega)
        rw [h2, show ((n : Int) + 1).toNat = n + 1 from by omega, Int.toNat_natCast]
        congr 2
        apply ByteArray.ext
        rw [ByteArray.data_extract]
        apply Array.toList_inj.1
        rw [Array.toList_extract, List.extract_eq_take_drop]
        show ((s.drop n).take (n + 1 - n)) = [x]
        rw [show n + 1 - n = 1 from by omega, hxn]
      obtain ⟨XS, hXS⟩ : ∃ XS, XS = spl c (s.take n) := ⟨_, rfl⟩
      rw [← hXS] at how hpl hne HS hle
      have z4 : IntKind.i64.wrap ((n : Int) + 1) = (n : Int) + 1 := by rw [IntKind.wrap_i64]; omega
      clear hx hT hxn hXS
      by_cases hc : x = c
      · have q1 : (((x.toNat : Nat) : Int) == ((c.toNat : Nat) : Int)) = true := by rw [hc]; exact beq_self_eq_true _
        rw [if_pos hc] at HS
        have hsz1 := hbe.size
        clear hc hcut hle
        go_wp2_with (at_builtin; go_must (refine wpList_pushL SV_one Tryz.underlying33 infoSt rfl (by decide) how [] (by omega) hsz1 rfl _ _ rfl (by rfl) _ _ _ (by rfl) (by rfl) ?_))
        intro v3 w3 ho3 hg3 hn3
        have hb3 := below_own hbe how hg3 hsz1
        have HB3 := Lib.hid hb3
        clear hg3 hn3 how hb3 hbe
        go_wp2_with fail
        go_roundw
        case rel => exact ⟨n + 1, by go_num, h1, by rw [HS.out]; exact ho3, HB3.out⟩
        case measure => simp only [intOf]; omega
      · have q1 : (((x.toNat : Nat) : Int) == ((c.toNat : Nat) : Int)) = false := by
          apply beq_eq_false_iff_ne.2
          intro e
          exact hc (UInt8.toNat.inj (by omega))
        rw [if_neg hc] at HS
        obtain ⟨g, cap, rfl, hgB, hglt, hcp, hfz, hcl⟩ := OwnL.block how hne
        have hlen : XS.length ≠ 0 := fun e => hne (List.length_eq_zero_iff.1 e)
        obtain ⟨k, hk⟩ : ∃ k, k = XS.length - 1 := ⟨_, rfl⟩
        have hkx : XS[k]? = some (XS.getD k []) := by rw [List.getD_eq_getElem?_getD, List.getElem?_eq_getElem (by omega)]; rfl
        have c0 := hcl k _ hkx
        replace c0 : wr.cell? ⟨g, k, none⟩ = some (.string (strB (XS.getD k []))) := c0
        have f0 := hfz k
        have hlast : lastX XS x = XS.set k (XS.getD k [] ++ [x]) := by unfold lastX; rw [← hk]
        rw [hlast] at HS
        obtain ⟨Y, hY⟩ : ∃ Y, Y = XS.getD k [] := ⟨_, rfl⟩
        rw [← hY] at c0 HS
        have hYl : Y.length ≤ 1000000 := by rw [hY]; exact hle _ (List.mem_of_getElem? hkx)
        have hadd : ∀ W, (Op.stringOp .add (strB Y) (strB [x])).run Tryz.prog W = .ok (.string (strB (Y ++ [x]))) W := fun W => str_add Y [x] (by simp; omega) W
        have how2 := OwnL.set how k (Y ++ [x])
        have HOW2 := Lib.hid how2
        have HB2 : Hid (Below w.heap.size w (wr.setCell ⟨g, k, none⟩ (.string (strB (Y ++ [x]))))) := hbe.setCell hgB _
        have hkl : (XS.length : Int) - 1 = (k : Int) := by omega
        have z5 : IntKind.i64.wrap ((XS.length : Int) - 1) = (k : Int) := by rw [IntKind.wrap_i64]; omega
        have z6 : (k : Int) < (XS.length : Int) := by omega
        clear hcl hfz hkx hY how how2 hc hlast hne hle hkl hk
        go_wp2_with fail
        go_region
        all_goals go_wp2_with fail
        go_roundw
        case rel => exact ⟨n + 1, by go_num, h1, by rw [HS.out]; exact own_drewL HOW2.out, HB2.out.drew⟩
        case measure => simp only [intOf]; omega
    · rw [show s.take n = s from List.take_of_length_le (by omega)] at how hne
      obtain ⟨g, cap, rfl, -, -, -, -, -⟩ := OwnL.block how hne
      have HOW := Lib.hid how
      clear how hne hle hpl
      go_wp2_with fail
      go_ret
      exact ⟨g, cap, rfl, HOW.out, hbe⟩
end Go.Proofs.YtbcpciegdmminaaGreatDoor
