/- The walk of VarintRows: numbers put one behind the other are all parsed as they were. -/
import Derived.Test.YtepogpihmpdeaaaDoorPutAll
import Derived.Test.YtepogpihmpdeaaaDoorSameN
import Derived.Test.YtepogpihmpdeaaaDoorAlive02
import Derived.Test.YtepogpihmpdeaaaDoorVputR
namespace Go.Proofs.YtepogpihmpdeaaaDoor
open Go Go.RowKit
set_option maxRecDepth 100000 in
theorem walkVarintRows (w : World) (v : Value) (ns : List Nat) (hr0 : RowN w v ns) (hb : ∀ n ∈ ns, (n : Int) ≤ 18446744073709551615) (ea : Nat → Addr) (he2 : ErrAt w 1 (ea 2)) (he4 : ErrAt w 0 (ea 4)) :
    Calls Tryd.prog 6 #[v] w fun e w' => e = .returned (.bool true) ∧ Below w.heap.size w w' := by
  have hr := hr0.gen
  obtain ⟨a, c, rfl, _, hin⟩ := hr.shape
  have hb' : ∀ n ∈ ns, n < 18446744073709551616 := fun n hn => by have := hb n hn; omega
  have HI := Lib.hid hin
  have HB := Lib.hid hb'
  clear hin hb hb' hr0
  go_enter Tryd.func6, Tryd.ntmps6
  go_wp2_with fail
  refine (alive02 ea w he2 he4).mono ?_
  rintro e w1 ⟨rfl, hb1⟩
  by_cases hl : 60 < ns.length
  · clear hr he2 he4
    go_wp2_with fail
    go_ret
    exact ⟨rfl, hb1⟩
  · have hr1 := hr.stays hb1
    have he21 := he2.stays hb1
    have he41 := he4.stays hb1
    have hp := Lib.hid (vPutAll_any _ ns w1 hr1 (by omega) HB.out)
    clear he2 he4 hr1
    go_wp2_with fail
    refine hp.out.mono ?_
    rintro e w2 ⟨v2, rfl, how2, hb2⟩
    have he22 := he21.stays hb2
    have he42 := he41.stays hb2
    have hbe2 := hb1.trans (hb2.mono hb1.size)
    clear he21 he41 hp hb1 hb2
    go_wp2_with fail
    go_loopw [4, 18] (fun n i wr => ∃ k : Nat, k ≤ ns.length ∧ i = .int .i64 k ∧ n = .int .i64 (vputs (ns.take k)).length ∧ wr = w2) (fun _ i _ => ns.length - (intOf i).toNat)
    case atStart => exact ⟨0, Nat.zero_le _, rfl, rfl, rfl⟩
    case round =>
      obtain ⟨k, hk, rfl, rfl, rfl⟩ := hrel
      by_cases hlt : k < ns.length
      · obtain ⟨x, hx⟩ : ∃ x, ns[k]? = some x := ⟨_, List.getElem?_eq_getElem hlt⟩
        obtain ⟨b, o, rfl, hcx⟩ := HI.out k x hx
        have hcx' : wr.cell? ⟨b, o + k, none⟩ = some (.int .u64 x) := (hbe2.cell (p := ⟨b, o + k, none⟩) (World.block_lt_of_cell? w ⟨b, o + k, none⟩ hcx)).trans hcx
        have hsn := Lib.hid (vputs_snoc ns k hx)
        have hxb : x < 18446744073709551616 := HB.out x (List.mem_of_getElem? hx)
        have hl10 := vput_len10 x hxb
        have hlp : (vputs (ns.take k)).length ≤ 10000 := by
          have := vputs_len (ns.take k) (fun n hn => HB.out n (List.mem_of_mem_take hn))
          have h2 : (ns.take k).length ≤ k := List.length_take_le _ _
          omega
        have HP := Lib.hid (vSize_any x wr hxb)
        have hxi : (x : Int) ≤ 18446744073709551615 := by omega
        clear hx hcx hxb
        go_wp2_with fail
        refine HP.out.mono ?_
        rintro e w3 ⟨rfl, rfl⟩
        clear HP hcx'
        go_wp2_with fail
        go_roundw
        case rel => exact ⟨k + 1, by omega, by go_num, vint (by rw [hsn.out]; simp), trivial⟩
        case measure => simp [intOf]; omega
      · obtain rfl : k = ns.length := by omega
        have hlv : (vputs ns).length ≤ 600 := by
          have := vputs_len ns HB.out
          omega
        have HA := Lib.hid (vAll_any ea v2 (vputs ns) wr how2.row (by omega) he22 he42)
        rw [vall_puts ns HB.out] at HA
        rw [List.take_length]
        clear he22 he42
        go_wp2_with fail
        refine HA.out.mono ?_
        rintro e w3 ⟨v3, rfl, how3, hb3⟩
        rw [EV_zero]
        have hbe3 := hbe2.trans (hb3.mono hbe2.size)
        obtain ⟨ad, cc, hv2, _, _⟩ := how2.row.gen.shape
        subst hv2
        have hrn := hr.stays hbe3
        have hs := sameN_any v3 _ ns ns w3 how3.row hrn (by omega) (by omega)
        rw [decide_eq_true (rfl : ns = ns)] at hs
        have HS := Lib.hid hs
        clear HA hrn hr how3 hs
        go_wp2_with fail
        refine HS.out.mono ?_
        rintro e w4 ⟨rfl, hb4⟩
        have hbe4 := hbe3.trans (hb4.mono hbe3.size)
        go_wp2_with fail
        go_ret
        exact ⟨rfl, hbe4⟩
end Go.Proofs.YtepogpihmpdeaaaDoor
