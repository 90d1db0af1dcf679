/- The walk of SuperParses: the block of all bytes. -/
import Derived.Test.YtgehbabcpmkgaaaDoorAlive33
import Derived.Test.YtgehbabcpmkgaaaDoorBytes
namespace Go.Proofs.YtgehbabcpmkgaaaDoor
open Go Go.RowKit
set_option linter.unusedVariables false
theorem sParse_any (ea : Nat → Addr) (v : Value) (bs : List UInt8) (w : World) (hr : RowB w v bs) (hlen : bs.length ≤ 1000000) (he1 : ErrAt w 2 (ea 1)) (he2 : ErrAt w 3 (ea 2)) (he9 : ErrAt w 4 (ea 9)) (he18 : ErrAt w 8 (ea 18)) :
    Calls Tryd.prog 38 #[v] w fun e w' => e = .returned (.tuple #[.agg #[.int .u32 (supB bs 4), .int .u32 (supB bs 8), .int .i64 (supB bs 12), .int .i64 (supB bs 16)], EV ea (supK bs)]) ∧ Below w.heap.size w w' := by
  by_cases hl : bs.length < 24
  · have hK : supK bs = 2 := if_pos hl
    rw [supB_bad (by rw [hK]; decide), supB_bad (by rw [hK]; decide), supB_bad (by rw [hK]; decide), supB_bad (by rw [hK]; decide), hK]
    exact sParse_short ea v bs w hr hl he2
  · exact sParse_long ea v bs w hr hl hlen he1 he2 he9 he18
set_option maxRecDepth 100000 in
set_option maxHeartbeats 1000000 in
theorem walkSuperParses (w : World) (v : Value) (bs : List UInt8) (hr : RowB w v bs) (ea : Nat → Addr) (he : ErrsAll ea w) :
    Calls Tryd.prog 6 #[v] w fun e w' => e = .returned (.bool true) ∧ Below w.heap.size w w' := by
  obtain ⟨a, c, rfl, -, -⟩ := hr.gen.shape
  have HA := Lib.hid (alive33 w)
  have HE : Hid (∀ w', Below w.heap.size w w' → ErrsAll ea w') := fun w' hb => he.stays hb
  have HROW : Hid (∀ w', Below w.heap.size w w' → RowB w' (.slice a bs.length c) bs) := fun w' hb => hr.stays hb
  clear he hr
  go_enter Tryd.func6, Tryd.ntmps6
  go_wp2_with fail
  refine HA.out.mono ?_
  rintro e w1 ⟨rfl, hb1⟩
  clear HA
  by_cases hl : 200 < bs.length
  · go_wp2_with fail
    go_ret
    exact ⟨rfl, hb1⟩
  · have HB := Lib.hid (bytes_any _ bs w1 (HROW.out _ hb1) (by omega))
    go_wp2_with fail
    refine HB.out.mono ?_
    rintro e w2 ⟨v3, rfl, hm2, hb2⟩
    have hbe2 := hb1.trans (hb2.mono hb1.size)
    have hE := HE.out _ hbe2
    have HP := Lib.hid (sParse_any ea v3 bs w2 hm2.row (by omega) hE.e1 hE.e2 hE.e9 hE.e18)
    clear HB hb1 hb2 hE
    go_wp2_with fail
    refine HP.out.mono ?_
    rintro e w3 ⟨rfl, hb3⟩
    have hm3 := hm2.stays hb3
    have hbe3 := hbe2.trans (hb3.mono hbe2.size)
    have hK := supK_le bs
    have HR := fun w' => rsParse_any bs w' (by omega)
    have l0 : ((supB bs 4 : Nat) : Int) ≤ 4294967295 ∧ ((supB bs 8 : Nat) : Int) ≤ 4294967295 := by
      have h1 := num4_le bs 4
      have h2 := num4_le bs 8
      unfold supB
      constructor <;> split <;> omega
    obtain ⟨l0, l1⟩ := l0
    generalize supB bs 4 = n0 at *
    generalize supB bs 8 = n1 at *
    generalize supB bs 12 = n2 at *
    generalize supB bs 16 = n3 at *
    generalize supK bs = K at *
    have HR := Lib.hid HR
    have HK19 := Lib.hid hK
    have hb4 : Below w3.heap.size w3 (w3.alloc (.cells #[.int .u32 n0, .int .u32 n1, .int .i64 n2, .int .i64 n3] 51)) := (Below.refl _ _).alloc (Nat.le_refl _) _
    have hcA := CellsAt.new w3 #[.int .u32 n0, .int .u32 n1, .int .i64 n2, .int .i64 n3] 51
    have hbe4 := hbe3.trans (hb4.mono hbe3.size)
    have hm4 := hm3.stays hb4
    have s4 := convert_str (HROW.out _ hbe3)
    have s4' := convert_str (HROW.out _ hbe4)
    have HCA := Lib.hid hcA
    have HM4 := Lib.hid hm4
    have HBE4 := Lib.hid hbe4
    clear HP hm2 hb3 hbe2 hK hb4 hcA hm3 hm4 hbe4
    go_wp2_with fail
    refine (HR.out _).mono ?_
    rintro e w5 ⟨rfl, hb5⟩
    have hcA := HCA.out.stays hb5
    have hm5 := HM4.out.stays hb5
    have hbe5 := HBE4.out.trans (hb5.mono HBE4.out.size)
    have hb6 : Below w5.heap.size w5 (w5.alloc (.cells #[.int .u32 n0, .int .u32 n1, .int .i64 n2, .int .i64 n3] 52)) := (Below.refl _ _).alloc (Nat.le_refl _) _
    have a0 := hcA.cell 0 (v := .int .u32 n0) rfl
    have a1 := hcA.cell 1 (v := .int .u32 n1) rfl
    have a2 := hcA.cell 2 (v := .int .i64 n2) rfl
    have a3 := hcA.cell 3 (v := .int .i64 n3) rfl
    have hbe6 := hbe5.trans (hb6.mono hbe5.size)
    have hm6 := hm5.stays hb6
    have HN := Lib.hid (num_any ea K HK19.out _ (HE.out _ hbe6))
    have hsz := hcA.lt
    have b0 : ((n0 : Int) == n0) = true := by simp
    have b1 : ((n1 : Int) == n1) = true := by simp
    have b2 : ((n2 : Int) == n2) = true := by simp
    have b3 : ((n3 : Int) == n3) = true := by simp
    have bk : ((K : Int) == K) = true := by simp
    have HKp := Lib.hid (fun w' (hb : Below _ _ w') => kept_any _ v3 _ bs w' (hm6.stays hb) (HROW.out _ (hbe6.trans (hb.mono hbe6.size))) (by omega))
    have HB6 := Lib.hid hbe6
    clear HR hb5 HCA HM4 HBE4 s4 s4' hcA hm5 hb6 hbe5 hm6 hbe3 hbe6
    go_wp2_with fail
    refine HN.out.mono ?_
    rintro e w7 ⟨rfl, hb7⟩
    have HK7 := Lib.hid (HKp.out w7 hb7)
    have hbe7 := HB6.out.trans (hb7.mono HB6.out.size)
    clear HN HKp hb7
    go_wp2_with fail
    refine HK7.out.mono ?_
    rintro e w8 ⟨rfl, rfl⟩
    go_wp2_with fail
    go_ret
    exact ⟨rfl, hbe7⟩
end Go.Proofs.YtgehbabcpmkgaaaDoor
