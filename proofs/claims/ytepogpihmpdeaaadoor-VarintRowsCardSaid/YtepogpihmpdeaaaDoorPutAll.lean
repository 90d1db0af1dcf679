/- varint.PutAll: numbers put one behind the other. At most 1000 numbers. -/
import Derived.Test.YtepogpihmpdeaaaDoorVall
namespace Go.Proofs.YtepogpihmpdeaaaDoor
open Go Go.RowKit
theorem vputs_append (a b : List Nat) : vputs (a ++ b) = vputs a ++ vputs b := by
  induction a with
  | nil => rfl
  | cons n ns ih => simp [vputs, ih]
theorem vputs_len (ns : List Nat) (hb : ∀ n ∈ ns, n < 18446744073709551616) : (vputs ns).length ≤ 10 * ns.length := by
  induction ns with
  | nil => simp [vputs]
  | cons n ns ih =>
    have h1 := vput_len10 n (hb n (by simp))
    have h2 := ih (fun m hm => hb m (by simp [hm]))
    simp [vputs]; omega
theorem vputs_snoc (ns : List Nat) (k : Nat) {x : Nat} (hx : ns[k]? = some x) : vputs (ns.take (k + 1)) = vputs (ns.take k) ++ vput x := by
  rw [List.take_add_one, hx, vputs_append]; simp [vputs]
set_option maxRecDepth 100000 in
theorem vPutAll_any (v : Value) (ns : List Nat) (w : World) (hr : RowL UV w v ns) (hlen : ns.length ≤ 1000) (hb : ∀ n ∈ ns, n < 18446744073709551616) :
    Calls Tryd.prog 22 #[v] w fun e w' => ∃ v', e = .returned v' ∧ OwnB w.heap.size w' v' (vputs ns) ∧ Below w.heap.size w w' := by
  obtain ⟨a, c, rfl, _, hin⟩ := hr.shape
  clear hr
  have HI := Lib.hid hin
  have HB := Lib.hid hb
  clear hin hb
  go_enter Tryd.func22, Tryd.ntmps22
  go_wp2_with fail
  go_loopw [3, 8] (fun v3 i wr => ∃ k : Nat, k ≤ ns.length ∧ i = .int .i64 k ∧ OwnB w.heap.size wr v3 (vputs (ns.take k)) ∧ Below w.heap.size w wr) (fun _ i _ => ns.length - (intOf i).toNat)
  case atStart => exact ⟨0, Nat.zero_le _, rfl, OwnB.nil _ _, Below.refl _ _⟩
  case round =>
    obtain ⟨k, hk, rfl, how, hbe⟩ := hrel
    by_cases hlt : k < ns.length
    · obtain ⟨x, hx⟩ : ∃ x, ns[k]? = some x := ⟨_, List.getElem?_eq_getElem hlt⟩
      obtain ⟨b, o, rfl, hcx⟩ := HI.out k x hx
      have hcx' : wr.cell? ⟨b, o + k, none⟩ = some (.int .u64 x) := (hbe.cell (p := ⟨b, o + k, none⟩) (World.block_lt_of_cell? w ⟨b, o + k, none⟩ hcx)).trans hcx
      have hsn := Lib.hid (vputs_snoc ns k hx)
      have hxb : x < 18446744073709551616 := HB.out x (List.mem_of_getElem? hx)
      have hlp : (vputs (ns.take k)).length ≤ 10000 := by
        have := vputs_len (ns.take k) (fun n hn => HB.out n (List.mem_of_mem_take hn))
        have h2 : (ns.take k).length ≤ k := List.length_take_le _ _
        omega
      have hp := put_any w.heap.size _ (vputs (ns.take k)) x wr hxb (by omega) hbe.size how
      have HP := Lib.hid hp
      have hxi : (x : Int) ≤ 18446744073709551615 := by omega
      clear hx hcx hxb hp
      go_wp2_with fail
      refine HP.out.mono ?_
      rintro e w1 ⟨v1, rfl, how1, hg1, _⟩
      have hbe1 := how.below hbe hg1 hbe.size
      clear HP hg1 how hbe hcx'
      go_wp2_with fail
      go_roundw
      case rel => exact ⟨k + 1, by omega, by go_num, by rw [hsn.out]; exact how1, hbe1⟩
      case measure => simp [intOf]; omega
    · obtain rfl : k = ns.length := by omega
      go_wp2_with fail
      go_ret
      exact ⟨_, rfl, by rw [List.take_length] at how; exact how, hbe⟩
end Go.Proofs.YtepogpihmpdeaaaDoor
