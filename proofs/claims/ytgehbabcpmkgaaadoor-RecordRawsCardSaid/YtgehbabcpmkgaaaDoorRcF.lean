/- All records of bytes: record.All, and the reference's All. At most 1000000 bytes. -/
import Derived.Test.YtgehbabcpmkgaaaDoorRcE
import Derived.Test.YtgehbabcpmkgaaaDoorSrows
namespace Go.Proofs.YtgehbabcpmkgaaaDoor
open Go Go.RowKit
set_option linter.unusedVariables false
theorem infoRc : (Tryd.prog.info? 69).map (fun i => (i.zero, i.size, i.bytes)) = some (some (.agg #[.int .i64 0, .int .i64 0, .int .u64 0, .string { data := #[] }, .string { data := #[] }]), 5, 56) := by kernel_rfl
theorem infoRd : (Tryd.prog.info? 73).map (fun i => (i.zero, i.size, i.bytes)) = some (some (.agg #[.int .i64 0, .int .i64 0, .int .u64 0, .string { data := #[] }, .string { data := #[] }]), 5, 56) := by kernel_rfl
abbrev OwnRc (B : Nat) (w : World) (v : Value) (rs : List Rc) : Prop := OwnS 69 5 rcC B w v rs
abbrev OwnRd (B : Nat) (w : World) (v : Value) (rs : List Rc) : Prop := OwnS 73 5 rcC B w v rs
def lenR : Value → Nat
  | .slice _ n _ => n
  | _ => 0
theorem RowB.lenR {w : World} {v : Value} {bs : List UInt8} (h : RowB w v bs) : lenR v = bs.length := by
  obtain ⟨a, c, rfl, _⟩ := h.gen.shape
  rfl
set_option maxRecDepth 100000 in
set_option maxHeartbeats 2000000 in
theorem rcAll_any (ea : Nat → Addr) (v : Value) (bs : List UInt8) (w : World) (hr : RowB w v bs) (hlen : bs.length ≤ 1000000) (he1 : ErrAt w 2 (ea 1)) (he2 : ErrAt w 3 (ea 2)) (he4 : ErrAt w 9 (ea 4)) (he5 : ErrAt w 10 (ea 5)) (he6 : ErrAt w 11 (ea 6)) (he12 : ErrAt w 1 (ea 12)) :
    Calls Tryd.prog 45 #[v] w fun e w' => ∃ v', e = .returned (.tuple #[v', EV ea (rall bs).2]) ∧ OwnRc w.heap.size w' v' (rall bs).1 ∧ Below w.heap.size w w' := by
  have HPR : Hid (∀ (W : World) (v' : Value) (l : List UInt8), Below w.heap.size w W → RowB W v' l → l.length ≤ 1000000 → Calls Tryd.prog 42 #[v'] W fun e w' => e = .returned (.tuple #[rcV (rparse l).1, .int .i64 (rparse l).2.1, EV ea (rparse l).2.2]) ∧ Below W.heap.size W w') := fun W v' l hb h hl => rcParse_any ea v' l W h hl (he1.stays hb) (he2.stays hb) (he4.stays hb) (he5.stays hb) (he6.stays hb) (he12.stays hb)
  clear he1 he2 he4 he5 he6 he12
  go_enter Tryd.func45, Tryd.ntmps45
  go_wp2_with fail
  go_loopw [0, 4] (fun v0 v4 wr => ∃ (f : Nat) (out : List Rc) (l : List UInt8), RowB w v0 l ∧ OwnRc w.heap.size wr v4 out ∧ Hid (rallA f out l = rall bs) ∧ l.length ≤ f ∧ out.length + l.length ≤ 1000000 ∧ Below w.heap.size w wr)
    (fun v0 _ _ => lenR v0)
  case atStart => exact ⟨bs.length, [], bs, hr, OwnS.nil _ _, rfl, Nat.le_refl _, by simpa using hlen, Below.refl _ _⟩
  case round =>
    obtain ⟨f, out, l, hrl, how, hva, hlf, hol, hbe⟩ := hrel
    obtain ⟨ad, c, rfl, _, _⟩ := hrl.gen.shape
    have hsz := hbe.size
    by_cases hl : l = []
    · subst hl
      have hv := hva.out
      rw [rallA_nil] at hv
      have HV := Lib.hid hv
      clear hv hva
      go_wp2_with fail
      go_ret2
      refine ⟨u4, ?_, ?_, hbe⟩
      · exact ret2 rfl (by rw [← HV.out]; rfl)
      · rw [← HV.out]; exact how
    · have hpos : 0 < l.length := List.length_pos_iff.2 hl
      obtain ⟨g, rfl⟩ : ∃ g, f = g + 1 := ⟨f - 1, by omega⟩
      have hpr := HPR.out wr _ l hbe (hrl.stays hbe) (by omega)
      rcases rparse_ok l with ⟨r, s, hp, hok⟩ | ⟨e, he, h19, hp⟩
      · have hv := hva.out
        rw [rallA_step hl hp] at hv
        rw [hp] at hpr
        have hs1 := hok.pos
        have hs2 := hok.le
        have HV := Lib.hid hv
        have HP := Lib.hid hpr
        clear hv hva hpr hl hp hok
        obtain ⟨n, k, bits, text, raw⟩ := r
        replace HP : Hid (Calls Tryd.prog 42 #[.slice ad l.length c] wr fun e w' => e = .returned (.tuple #[.agg #[.int .i64 n, .int .i64 k, .int .u64 bits, .string (strB text), .string (strB raw)], .int .i64 s, EV ea 0]) ∧ Below wr.heap.size wr w') := HP
        rw [EV_zero] at HP
        go_wp2_with fail
        refine HP.out.mono ?_
        rintro e w1 ⟨rfl, hb1⟩
        have hba : Below w1.heap.size w1 (w1.alloc (.cells #[.int .i64 n, .int .i64 k, .int .u64 bits, .string (strB text), .string (strB raw)] 69)) := (Below.refl _ _).alloc (Nat.le_refl _) _
        have hct := CellsAt.new w1 #[.int .i64 n, .int .i64 k, .int .u64 bits, .string (strB text), .string (strB raw)] 69
        have how1 : OwnRc _ _ _ _ := OwnS.stays (OwnS.stays how hb1) hba
        have hbe1 := (hbe.trans (hb1.mono hsz)).trans (hba.mono (hbe.trans (hb1.mono hsz)).size)
        have hsz1 := hbe1.size
        have c0 := hct.cell 0 (v := .int .i64 n) rfl
        have c1 := hct.cell 1 (v := .int .i64 k) rfl
        have c2 := hct.cell 2 (v := .int .u64 bits) rfl
        have c3 := hct.cell 3 (v := .string (strB text)) rfl
        have c4 := hct.cell 4 (v := .string (strB raw)) rfl
        clear HP how hbe hb1 hba hct
        go_upto_region 6 with fail
        generalize w1.alloc (.cells #[.int .i64 n, .int .i64 k, .int .u64 bits, .string (strB text), .string (strB raw)] 69) = W1 at how1 hbe1 hsz1 c0 c1 c2 c3 c4 ⊢
        go_wp2_with (at_builtin; go_must (refine wpList_pushS rcC_len rcC_one Tryd.underlying77 infoRc rfl (by decide) how1 ⟨n, k, bits, text, raw⟩ (by omega) hsz1 rfl _ _ rfl (by rfl) _ _ _ (by rfl) (by rfl) ?_))
        intro v' w2 how2 hg2 _
        have hbe2 := OwnS.below how1 hbe1 hg2 hsz1
        clear hg2 how1 hbe1
        go_wp2_with (refine wpList_sliceFrom (o := ⟨some 26, _, _, _, _, _⟩) hrl.gen s hs2 Tryd.underlying23 infoB rfl _ _ rfl (by rfl) _ _ (by rfl) rfl ?_)
        intro v3 hr3
        go_wp2_with fail
        go_roundw
        case rel => exact ⟨g, out ++ [⟨n, k, bits, text, raw⟩], l.drop s, hr3, how2, HV, by simp; omega, by simp; omega, hbe2⟩
        case measure => rw [RowB.lenR hr3]; show _ < l.length; simp; omega
      · have hv := hva.out
        rw [rallA_bad hl hp he] at hv
        rw [hp] at hpr
        have HV := Lib.hid hv
        have HP := Lib.hid hpr
        replace HP : Hid (Calls Tryd.prog 42 #[.slice ad l.length c] wr fun e' w' => e' = .returned (.tuple #[.agg #[.int .i64 0, .int .i64 0, .int .u64 0, .string { data := #[] }, .string { data := #[] }], .int .i64 0, EV ea e]) ∧ Below wr.heap.size wr w') := HP
        rw [EV_pos ea he] at HP
        clear hv hva hpr hl hp
        go_wp2_with fail
        refine HP.out.mono ?_
        rintro e' w1 ⟨rfl, hb1⟩
        have hbe1 := hbe.trans (hb1.mono hsz)
        have hbe2 := hbe1.alloc hbe1.size (.cells #[.int .i64 0, .int .i64 0, .int .u64 0, .string { data := #[] }, .string { data := #[] }] 69)
        clear HP how hbe hb1
        go_wp2_with fail
        go_ret2
        refine ⟨.slice none 0 0, ?_, ?_, hbe2⟩
        · exact ret2 rfl (by rw [← HV.out]; exact (EV_pos ea he).symm)
        · rw [← HV.out]; exact OwnS.nil _ _
set_option maxRecDepth 100000 in
set_option maxHeartbeats 2000000 in
theorem rcAllR_any (v : Value) (bs : List UInt8) (w : World) (hr : RowB w v bs) (hlen : bs.length ≤ 1000000) :
    Calls Tryd.prog 46 #[v] w fun e w' => ∃ v', e = .returned (.tuple #[v', .int .i64 (rall bs).2]) ∧ OwnRd w.heap.size w' v' (rall bs).1 ∧ Below w.heap.size w w' := by
  have HPR : Hid (∀ (W : World) (v' : Value) (l : List UInt8), RowB W v' l → l.length ≤ 1000000 → Calls Tryd.prog 43 #[v'] W fun e w' => e = .returned (.tuple #[rcV (rparse l).1, .int .i64 (rparse l).2.1, .int .i64 (rparse l).2.2]) ∧ Below W.heap.size W w') := fun W v' l h hl => rcParseR_any v' l W h hl
  obtain ⟨ad, c, rfl, _, _⟩ := hr.gen.shape
  have hmade : OwnRd w.heap.size (w.alloc (.cells #[] 73)) (.slice (some ⟨w.heap.size, 0, none⟩) 0 0) [] := World.ownsRow_made (base := w.heap.size) (e := 73) (size := 5) w #[] 0 (Nat.le_refl _) (Nat.zero_le _) rfl
  have HM := Lib.hid hmade
  clear hmade
  go_enter Tryd.func46, Tryd.ntmps46
  go_wp2_with fail
  go_loopw [4, 5] (fun v4 i wr => ∃ (f p : Nat) (out : List Rc), i = .int .i64 p ∧ p ≤ bs.length ∧ OwnRd w.heap.size wr v4 out ∧ Hid (rallA f out (bs.drop p) = rall bs) ∧ bs.length - p ≤ f ∧ out.length ≤ p ∧ Below w.heap.size w wr)
    (fun _ i _ => bs.length - (intOf i).toNat)
  case atStart => exact ⟨bs.length, 0, [], rfl, Nat.zero_le _, HM.out, rfl, by omega, Nat.le_refl _, (Below.refl _ _).alloc (Nat.le_refl _) _⟩
  case round =>
    obtain ⟨f, p, out, rfl, hat, how, hva, hlf, hol, hbe⟩ := hrel
    have hsz := hbe.size
    by_cases hl : p = bs.length
    · have hv := hva.out
      rw [hl, List.drop_length, rallA_nil] at hv
      have HV := Lib.hid hv
      clear hv hva
      have hlt : ¬ p < bs.length := by omega
      have hl' := Lib.hid hl
      clear hl
      go_wp2_with fail
      go_ret2
      refine ⟨u4, ?_, ?_, hbe⟩
      · exact ret2 rfl (by rw [← HV.out]; rfl)
      · rw [← HV.out]; exact how
    · have hlt : p < bs.length := by omega
      have hne : bs.drop p ≠ [] := by intro h; have := congrArg List.length h; simp at this; omega
      obtain ⟨g, rfl⟩ : ∃ g, f = g + 1 := ⟨f - 1, by omega⟩
      clear hl
      go_wp2_with (refine wpList_sliceFrom (o := ⟨some 17, _, _, _, _, _⟩) hr.gen p hat Tryd.underlying23 infoB rfl _ _ rfl (by rfl) _ _ (by rfl) rfl ?_)
      intro v3 hr3
      have hpr := HPR.out wr v3 _ (RowB.stays hr3 hbe) (by simp; omega)
      rcases rparse_ok (bs.drop p) with ⟨r, s, hp, hok⟩ | ⟨e, he, h19, hp⟩
      · have hv := hva.out
        rw [rallA_step hne hp, List.drop_drop] at hv
        rw [hp] at hpr
        have hs1 := hok.pos
        have hs2 : s ≤ bs.length - p := by have := hok.le; rwa [List.length_drop] at this
        have HV := Lib.hid hv
        have HP := Lib.hid hpr
        clear hv hva hpr hp hok hne hr3
        obtain ⟨n, k, bits, text, raw⟩ := r
        replace HP : Hid (Calls Tryd.prog 43 #[v3] wr fun e w' => e = .returned (.tuple #[.agg #[.int .i64 n, .int .i64 k, .int .u64 bits, .string (strB text), .string (strB raw)], .int .i64 s, .int .i64 0]) ∧ Below wr.heap.size wr w') := HP
        go_wp2_with fail
        refine HP.out.mono ?_
        rintro e w1 ⟨rfl, hb1⟩
        have hba : Below w1.heap.size w1 (w1.alloc (.cells #[.int .i64 n, .int .i64 k, .int .u64 bits, .string (strB text), .string (strB raw)] 73)) := (Below.refl _ _).alloc (Nat.le_refl _) _
        have hct := CellsAt.new w1 #[.int .i64 n, .int .i64 k, .int .u64 bits, .string (strB text), .string (strB raw)] 73
        have how1 : OwnRd _ _ _ _ := OwnS.stays (OwnS.stays how hb1) hba
        have hbe1 := (hbe.trans (hb1.mono hsz)).trans (hba.mono (hbe.trans (hb1.mono hsz)).size)
        have hsz1 := hbe1.size
        have c0 := hct.cell 0 (v := .int .i64 n) rfl
        have c1 := hct.cell 1 (v := .int .i64 k) rfl
        have c2 := hct.cell 2 (v := .int .u64 bits) rfl
        have c3 := hct.cell 3 (v := .string (strB text)) rfl
        have c4 := hct.cell 4 (v := .string (strB raw)) rfl
        clear HP how hbe hb1 hba hct
        go_upto_region 7 with fail
        generalize w1.alloc (.cells #[.int .i64 n, .int .i64 k, .int .u64 bits, .string (strB text), .string (strB raw)] 73) = W1 at how1 hbe1 hsz1 c0 c1 c2 c3 c4 ⊢
        go_wp2_with (at_builtin; go_must (refine wpList_pushS rcC_len rcC_one Tryd.underlying80 infoRd rfl (by decide) how1 ⟨n, k, bits, text, raw⟩ (by omega) hsz1 rfl _ _ rfl (by rfl) _ _ _ (by rfl) (by rfl) ?_))
        intro v' w2 how2 hg2 _
        have hbe2 := OwnS.below how1 hbe1 hg2 hsz1
        clear hg2 how1 hbe1
        go_wp2_with fail
        go_roundw
        case rel => exact ⟨g, p + s, out ++ [⟨n, k, bits, text, raw⟩], by go_num, by omega, how2, HV, by omega, by simp; omega, hbe2⟩
        case measure => simp [intOf]; omega
      · have hv := hva.out
        rw [rallA_bad hne hp he] at hv
        rw [hp] at hpr
        have HV := Lib.hid hv
        have HP := Lib.hid hpr
        replace HP : Hid (Calls Tryd.prog 43 #[v3] wr fun e' w' => e' = .returned (.tuple #[.agg #[.int .i64 0, .int .i64 0, .int .u64 0, .string { data := #[] }, .string { data := #[] }], .int .i64 0, .int .i64 e]) ∧ Below wr.heap.size wr w') := HP
        have hkb : ((e : Int) != 0) = true := by simp; omega
        clear hv hva hpr hp hne hr3
        go_wp2_with fail
        refine HP.out.mono ?_
        rintro e' w1 ⟨rfl, hb1⟩
        have hbe1 := hbe.trans (hb1.mono hsz)
        have hbe2 := hbe1.alloc hbe1.size (.cells #[.int .i64 0, .int .i64 0, .int .u64 0, .string { data := #[] }, .string { data := #[] }] 73)
        clear HP how hbe hb1
        go_wp2_with fail
        go_ret2
        refine ⟨.slice none 0 0, ?_, ?_, hbe2⟩
        · exact ret2 rfl (by rw [← HV.out]; rfl)
        · rw [← HV.out]; exact OwnS.nil _ _
end Go.Proofs.YtgehbabcpmkgaaaDoor
