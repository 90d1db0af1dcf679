/- All numbers of bytes: varint.All and the reference's All answer alike; numbers put one behind the other (varint.PutAll) are all parsed as they were. -/
import Derived.Test.YtepogpihmpdeaaaDoorVparseR
namespace Go.Proofs.YtepogpihmpdeaaaDoor
open Go Go.RowKit
theorem vref_size (bs : List UInt8) : (vparse 0 0 bs).2.2 = 0 ∧ 1 ≤ (vparse 0 0 bs).2.1 ∧ (vparse 0 0 bs).2.1 ≤ bs.length ∧ (vparse 0 0 bs).1 < 18446744073709551616 ∨ vparse 0 0 bs = (0, 0, 2) ∨ vparse 0 0 bs = (0, 0, 4) := by
  rw [vref_eq bs 0 0 (by omega)]
  have hle := vend_le 10 bs
  have hcap := vend_cap 10 bs
  simp only [vref, Nat.sub_zero]
  by_cases h1 : 0 + vend 10 bs = 10 ∨ 0 + vend 10 bs = 9 ∧ vend 10 bs < bs.length ∧ 1 < (bs.getD (vend 10 bs) 0).toNat
  · rw [if_pos h1]; exact .inr (.inr rfl)
  · rw [if_neg h1]
    by_cases h2 : vend 10 bs = bs.length
    · rw [if_pos h2]; exact .inr (.inl rfl)
    · rw [if_neg h2]
      refine .inl ⟨rfl, ?_, ?_, ?_⟩
      · show 1 ≤ 0 + vend 10 bs + 1; omega
      · show 0 + vend 10 bs + 1 ≤ bs.length; omega
      · show 0 + vval (bs.take (vend 10 bs + 1)) * 128 ^ 0 < _
        have := vval_bound bs (vend 10 bs) (by omega) (by
          by_cases h9 : vend 10 bs = 9
          · right; refine ⟨h9, ?_⟩
            refine Nat.le_of_not_lt fun hlt => h1 (.inr ⟨by omega, by omega, hlt⟩)
          · left; omega)
        simpa using this
/-- all numbers, behind those that are had; the error's number -/
def vallA : Nat → List Nat → List UInt8 → List Nat × Nat
  | _, out, [] => (out, 0)
  | 0, out, _ :: _ => (out, 0)
  | f + 1, out, x :: xs => if (vparse 0 0 (x :: xs)).2.2 = 0 then vallA f (out ++ [(vparse 0 0 (x :: xs)).1]) ((x :: xs).drop (vparse 0 0 (x :: xs)).2.1) else ([], (vparse 0 0 (x :: xs)).2.2)
def vall (bs : List UInt8) : List Nat × Nat := vallA bs.length [] bs
theorem vallA_nil (f : Nat) (out : List Nat) : vallA f out [] = (out, 0) := by cases f <;> rfl
theorem vallA_step {f : Nat} {out : List Nat} {l : List UInt8} (hl : l ≠ []) (hf : l.length ≤ f + 1) (h : (vparse 0 0 l).2.2 = 0) : vallA (f + 1) out l = vallA f (out ++ [(vparse 0 0 l).1]) (l.drop (vparse 0 0 l).2.1) := by
  cases l with
  | nil => exact absurd rfl hl
  | cons x xs => simp only [vallA, h, if_true]
theorem vallA_bad {f : Nat} {out : List Nat} {l : List UInt8} (hl : l ≠ []) (h : (vparse 0 0 l).2.2 ≠ 0) : vallA (f + 1) out l = ([], (vparse 0 0 l).2.2) := by
  cases l with
  | nil => exact absurd rfl hl
  | cons x xs => simp only [vallA, h, if_false]
theorem vallA_err : ∀ (f : Nat) (out : List Nat) (l : List UInt8), (vallA f out l).2 = 0 ∨ (vallA f out l).2 = 2 ∨ (vallA f out l).2 = 4
  | f, out, [] => by rw [vallA_nil]; exact .inl rfl
  | 0, out, _ :: _ => .inl rfl
  | f + 1, out, x :: xs => by
    rcases vref_size (x :: xs) with h | h | h
    · simp only [vallA, h.1, if_true]; exact vallA_err f _ _
    · simp only [vallA, h]; exact .inr (.inl rfl)
    · simp only [vallA, h]; exact .inr (.inr rfl)
/-- all numbers' bytes -/
def vputs : List Nat → List UInt8
  | [] => []
  | n :: ns => vput n ++ vputs ns
theorem vallA_puts : ∀ (ns : List Nat) (f : Nat) (out : List Nat), (∀ n ∈ ns, n < 18446744073709551616) → (vputs ns).length ≤ f → vallA f out (vputs ns) = (out ++ ns, 0)
  | [], f, out, _, _ => by simp [vputs, vallA_nil]
  | n :: ns, f, out, hb, hf => by
    have hn := hb n (by simp)
    have hp := vparse_put n hn (vputs ns)
    have hpos := vput_pos n
    simp only [vputs, List.length_append] at hf
    have hpos' : 0 < (vput n).length := hpos
    obtain ⟨g, rfl⟩ : ∃ g, f = g + 1 := ⟨f - 1, by omega⟩
    simp only [vputs]
    rw [vallA_step (by intro h; have := congrArg List.length h; rw [List.length_append, List.length_nil] at this; omega) (by rw [List.length_append]; omega) (by rw [hp]), hp]
    simp only [List.drop_left]
    rw [vallA_puts ns g _ (fun m hm => hb m (by simp [hm])) (by have := vput_pos n; omega)]
    simp
theorem vall_puts (ns : List Nat) (hb : ∀ n ∈ ns, n < 18446744073709551616) : vall (vputs ns) = (ns, 0) := by
  have := vallA_puts ns (vputs ns).length [] hb (Nat.le_refl _)
  simpa [vall] using this
theorem infoU : (Tryd.prog.info? 22).map (fun i => (i.zero, i.size, i.bytes)) = some (some (.int .u64 0), 1, 8) := by kernel_rfl
def OwnN (B : Nat) (w : World) (v : Value) (ns : List Nat) : Prop := OwnL 22 UV B w v ns
def lenV : Value → Nat
  | .slice _ n _ => n
  | _ => 0
theorem RowL.lenV {α : Type} {f : α → Value} {w : World} {v : Value} {xs : List α} (h : RowL f w v xs) : lenV v = xs.length := by
  obtain ⟨a, c, rfl, _⟩ := h.shape
  rfl
set_option maxRecDepth 100000 in
theorem vAll_any (ea : Nat → Addr) (v : Value) (bs : List UInt8) (w : World) (hr : RowB w v bs) (hlen : bs.length ≤ 1000000) (he2 : ErrAt w 1 (ea 2)) (he4 : ErrAt w 0 (ea 4)) :
    Calls Tryd.prog 23 #[v] w fun e w' => ∃ v', e = .returned (.tuple #[v', EV ea (vall bs).2]) ∧ OwnN w.heap.size w' v' (vall bs).1 ∧ Below w.heap.size w w' := by
  go_enter Tryd.func23, Tryd.ntmps23
  go_wp2_with fail
  go_loopw [0, 4] (fun v0 v4 wr => ∃ (f : Nat) (out : List Nat) (l : List UInt8), RowB w v0 l ∧ OwnN w.heap.size wr v4 out ∧ Hid (vallA f out l = vall bs) ∧ l.length ≤ f ∧ out.length + l.length ≤ 1000000 ∧ Below w.heap.size w wr)
    (fun v0 _ _ => lenV v0)
  case atStart => exact ⟨bs.length, [], bs, hr, OwnL.nil _ _, rfl, Nat.le_refl _, by simpa using hlen, Below.refl _ _⟩
  case round =>
    obtain ⟨f, out, l, hrl, how, hva, hlf, hol, hbe⟩ := hrel
    obtain ⟨ad, c, rfl, _, _⟩ := hrl.gen.shape
    have hsz := hbe.size
    by_cases hl : l = []
    · subst hl
      have hv := hva.out
      rw [vallA_nil] at hv
      have HV := Lib.hid hv
      clear hv hva
      go_wp2_with fail
      go_ret2
      refine ⟨u4, ?_, ?_, hbe⟩
      · exact ret2 rfl (by rw [← HV.out]; rfl)
      · rw [← HV.out]; exact how
    · have hpos : 0 < l.length := List.length_pos_iff.2 hl
      obtain ⟨g, rfl⟩ : ∃ g, f = g + 1 := ⟨f - 1, by omega⟩
      have e2 := (he2.below hbe he2.lt)
      have e4 := (he4.below hbe he4.lt)
      have hpr := vParse_any ea _ l wr (hrl.stays hbe) (by omega) e2 e4
      clear e2 e4
      rcases vref_size l with hok | hbad
      · obtain ⟨hk, hs1, hs2, hn⟩ := hok
        have hv := hva.out
        rw [vallA_step hl hlf hk] at hv
        rw [hk] at hpr
        generalize (vparse 0 0 l).1 = n at *
        generalize (vparse 0 0 l).2.1 = s at *
        have HV := Lib.hid hv
        have HP := Lib.hid hpr
        have hn' : (n : Int) ≤ 18446744073709551615 := by omega
        clear hv hva hpr hk hn hl
        go_wp2_with fail
        refine HP.out.mono ?_
        rintro e w1 ⟨rfl, hb1⟩
        rw [EV_zero]
        have how1 := OwnL.stays how hb1
        have hbe1 := hbe.trans (hb1.mono hsz)
        have hsz1 := hbe1.size
        clear HP how hbe hb1
        go_wp2_with (at_builtin; go_must (refine wpList_pushL UV_one Tryd.underlying41 infoU rfl (by decide) how1 n (by omega) (by omega) rfl _ _ rfl (by rfl) _ _ _ (by rfl) (by rfl) ?_))
        intro v' w2 how2 hg2 _
        have hbe2 := OwnL.below how1 hbe1 hg2 hsz1
        clear hg2 how1 hbe1
        go_wp2_with (refine wpList_sliceFrom (o := ⟨some 26, _, _, _, _, _⟩) hrl.gen s hs2 Tryd.underlying27 infoB rfl _ _ rfl (by rfl) _ _ (by rfl) rfl ?_)
        intro v3 hr3
        go_wp2_with fail
        go_roundw
        case rel => exact ⟨g, out ++ [n], l.drop s, hr3, how2, HV, by simp; omega, by simp; omega, hbe2⟩
        case measure => rw [hr3.lenV]; show _ < l.length; simp; omega
      · have hk : ∃ k, k ≠ 0 ∧ vparse 0 0 l = (0, 0, k) := by
          rcases hbad with h | h
          · exact ⟨2, by decide, h⟩
          · exact ⟨4, by decide, h⟩
        obtain ⟨k, hk0, hk⟩ := hk
        have hv := hva.out
        rw [vallA_bad hl (by rw [hk]; exact hk0), hk] at hv
        rw [hk] at hpr
        have HV := Lib.hid hv
        have HP := Lib.hid hpr
        clear hv hva hpr hk hl hbad
        go_wp2_with fail
        refine HP.out.mono ?_
        rintro e w1 ⟨rfl, hb1⟩
        rw [EV_pos ea hk0]
        have hbe1 := hbe.trans (hb1.mono hsz)
        clear HP how hbe hb1
        go_wp2_with fail
        go_ret2
        refine ⟨.slice none 0 0, ?_, ?_, hbe1⟩
        · exact ret2 rfl (by rw [← HV.out]; exact (EV_pos ea hk0).symm)
        · rw [← HV.out]; exact OwnL.nil _ _

set_option maxRecDepth 100000 in
theorem vAllR_any (v : Value) (bs : List UInt8) (w : World) (hr : RowB w v bs) (hlen : bs.length ≤ 1000000) :
    Calls Tryd.prog 27 #[v] w fun e w' => ∃ v', e = .returned (.tuple #[v', .int .i64 (vall bs).2]) ∧ OwnN w.heap.size w' v' (vall bs).1 ∧ Below w.heap.size w w' := by
  obtain ⟨ad, c, rfl, _, _⟩ := hr.gen.shape
  go_enter Tryd.func27, Tryd.ntmps27
  go_wp2_with fail
  go_loopw [4, 5] (fun v4 i wr => ∃ (f at' : Nat) (out : List Nat), i = .int .i64 at' ∧ at' ≤ bs.length ∧ OwnN w.heap.size wr v4 out ∧ Hid (vallA f out (bs.drop at') = vall bs) ∧ bs.length - at' ≤ f ∧ out.length ≤ at' ∧ Below w.heap.size w wr)
    (fun _ i _ => bs.length - (intOf i).toNat)
  case atStart => exact ⟨bs.length, 0, [], rfl, Nat.zero_le _, OwnL.made w, rfl, by omega, Nat.le_refl _, (Below.refl _ _).alloc (Nat.le_refl _) _⟩
  case round =>
    obtain ⟨f, at', out, rfl, hat, how, hva, hlf, hol, hbe⟩ := hrel
    have hsz := hbe.size
    by_cases hl : at' = bs.length
    · have hv := hva.out
      rw [hl, List.drop_length, vallA_nil] at hv
      have HV := Lib.hid hv
      clear hv hva
      have hlt : ¬ at' < bs.length := by omega
      have hl' := Lib.hid hl
      clear hl
      go_wp2_with fail
      go_ret2
      refine ⟨u4, ?_, ?_, hbe⟩
      · exact ret2 rfl (by rw [← HV.out]; rfl)
      · rw [← HV.out]; exact how
    · have hlt : at' < bs.length := by omega
      have hne : bs.drop at' ≠ [] := by intro h; have := congrArg List.length h; simp at this; omega
      obtain ⟨g, rfl⟩ : ∃ g, f = g + 1 := ⟨f - 1, by omega⟩
      clear hl
      go_wp2_with (refine wpList_sliceFrom (o := ⟨some 17, _, _, _, _, _⟩) hr.gen at' hat Tryd.underlying27 infoB rfl _ _ rfl (by rfl) _ _ (by rfl) rfl ?_)
      intro v3 hr3
      have hpr := vParseR_any v3 _ wr (RowB.stays hr3 hbe) (by simp; omega)
      rcases vref_size (bs.drop at') with hok | hbad
      · obtain ⟨hk, hs1, hs2, hn⟩ := hok
        have hv := hva.out
        rw [vallA_step hne (by simp; omega) hk] at hv
        rw [hk] at hpr
        generalize (vparse 0 0 (bs.drop at')).1 = n at *
        generalize (vparse 0 0 (bs.drop at')).2.1 = s at *
        rw [List.drop_drop] at hv
        have HV := Lib.hid hv
        have HP := Lib.hid hpr
        have hn' : (n : Int) ≤ 18446744073709551615 := by omega
        have hs3 : s ≤ bs.length - at' := by simpa using hs2
        clear hv hva hpr hk hn hne hs2 hr3
        go_wp2_with fail
        refine HP.out.mono ?_
        rintro e w1 ⟨rfl, rfl⟩
        clear HP
        go_wp2_with (at_builtin; go_must (refine wpList_pushL UV_one Tryd.underlying41 infoU rfl (by decide) how n (by omega) (by omega) rfl _ _ rfl (by rfl) _ _ _ (by rfl) (by rfl) ?_))
        intro v' w2 how2 hg2 _
        have hbe2 := OwnL.below how hbe hg2 hsz
        clear hg2 how hbe
        go_wp2_with fail
        go_roundw
        case rel => exact ⟨g, at' + s, out ++ [n], by go_num, by omega, how2, HV, by omega, by simp; omega, hbe2⟩
        case measure => simp [intOf]; omega
      · have hk : ∃ k, k ≠ 0 ∧ vparse 0 0 (bs.drop at') = (0, 0, k) := by
          rcases hbad with h | h
          · exact ⟨2, by decide, h⟩
          · exact ⟨4, by decide, h⟩
        obtain ⟨k, hk0, hk⟩ := hk
        have hv := hva.out
        rw [vallA_bad hne (by rw [hk]; exact hk0), hk] at hv
        rw [hk] at hpr
        have HV := Lib.hid hv
        have HP := Lib.hid hpr
        have hkb : ((k : Int) != 0) = true := by simp; omega
        clear hv hva hpr hk hbad hne hr3
        go_wp2_with fail
        refine HP.out.mono ?_
        rintro e w1 ⟨rfl, rfl⟩
        clear HP
        go_wp2_with fail
        go_ret2
        refine ⟨.slice none 0 0, ?_, ?_, hbe⟩
        · exact ret2 rfl (by rw [← HV.out]; rfl)
        · rw [← HV.out]; exact OwnL.nil _ _
end Go.Proofs.YtepogpihmpdeaaaDoor
