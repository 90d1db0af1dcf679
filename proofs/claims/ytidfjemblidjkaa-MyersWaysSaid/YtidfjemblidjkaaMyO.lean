/- The walk of the laws' of: runs as of the document; whatever their number. -/
import Derived.Test.YtidfjemblidjkaaMyU
namespace Go.Proofs.Ytidfjemblidjkaa
open Go Go.RowKit
set_option linter.unusedVariables false
/-- one element is appended to a row that may be as long as memory goes -/
theorem wpList_pushSB {α : Type} {cs : α → List Value} {E T : TypeId} {size B : Nat} {w : World} {v : Value} {xs : List α} {P : Program} {ops : Array Oper} {rest : List Oper} {o : Oper} {a : Act} {Q : Exit → Act → World → Prop} (hcs : ∀ x, (cs x).length = size) (hf : ∀ x : α, (cs x).all Value.oneCell' = true) {z : Value} {bytes : Nat} (ht : P.underlying T = some (.slice E))
    (hinf : (P.info? E).map (fun i => (i.zero, i.size, i.bytes)) = some (some z, size, bytes)) (hz : z.cells.size = size) (hown : OwnS E size cs B w v xs) (x : α) (h63 : xs.length + 1 ≤ maxLen) (hbig : (xs.length + 1) * bytes ≤ 140737488355328) (hbase : B ≤ w.heap.size)
    (hgd : o.guard = none) (s y : Operand) (ho : o.op = .call { callee := .builtin .append, args := #[s, y], argTypes := #[T, T] }) (hs : a.eval s = v)
    (us : Array Value) (e' : TypeId) (c : Nat) (hx : a.eval y = .slice (some ⟨w.heap.size, 0, none⟩) 1 c) (hu : us.toList = cs x)
    (h : ∀ v' w', OwnS E size cs B w' v' (xs ++ [x]) → w.grownBy w' v.ownBlock → NewOrSame w v v' → wpList P ops Q rest (a.put o.dst v') w') :
    wpList P ops Q (o :: rest) a (w.alloc (.cells us e')) := by
  have hul : us.size = size := by rw [← Array.length_toList, hu, hcs]
  refine wpList_push hgd s y T ho B E z size bytes ht hinf hz v xs.length (xs.flatMap cs) hs hown us e' c hx hul (by rw [hu]; exact hf x) h63 hbig hbase (fun v' w' h1 h2 h3 => h v' w' ?_ h2 h3)
  unfold OwnS
  rw [hu] at h1
  simpa using h1
/-- what of tells: true: not many runs, none of them great -/
def OfTold (B : Nat) (w : World) (v : Value) (rs : List Rn) (b : Bool) : Prop := b = true → OwnS 42 2 rnC B w v rs ∧ rs.length ≤ 40 ∧ ∀ r ∈ rs, r.2 ≤ 200
def OfPost (w : World) (rs : List Rn) (e : Ending) (w' : World) : Prop := ∃ v' b, e = .returned (.tuple #[v', .bool b]) ∧ OfTold w.heap.size w' v' rs b ∧ Below w.heap.size w w'
theorem OfPost.mk {w w' : World} {rs : List Rn} {e : Ending} (v' : Value) (b : Bool) (h1 : e = .returned (.tuple #[v', .bool b])) (h2 : OfTold w.heap.size w' v' rs b) (h3 : Below w.heap.size w w') : OfPost w rs e w' := ⟨v', b, h1, h2, h3⟩
set_option maxRecDepth 100000 in
set_option maxHeartbeats 4000000 in
theorem of_any (v : Value) (rs : List Rn) (w : World) (hr : RowS rnC w v rs) (hx : ∀ r ∈ rs, -9223372036854775808 ≤ r.2 ∧ r.2 ≤ 9223372036854775807) (hreach : rs.length * 16 ≤ 140737488351232) :
    Calls Try.prog 18 #[v] w (OfPost w rs) := by
  have HX := Lib.hid hx
  obtain ⟨a0, c0, rfl, -, hin⟩ := hr.shape rnC_len
  have HIN := Lib.hid hin
  have hm : OwnS 42 2 rnC w.heap.size (w.alloc (.cells #[] 42)) (.slice (some ⟨w.heap.size, 0, none⟩) 0 0) [] := World.ownsRow_made (base := w.heap.size) (e := 42) (size := 2) w #[] 0 (Nat.le_refl _) (Nat.zero_le _) rfl
  have hbA : Below w.heap.size w (w.alloc (.cells #[] 42)) := (Below.refl _ _).alloc (Nat.le_refl _) _
  have hl1 : rs.length ≤ 8796093021952 := by omega
  clear hr hin hx
  go_enter Try.func18, Try.ntmps18
  go_wp2_with fail
  generalize w.alloc (.cells #[] 42) = wm at hm hbA ⊢
  generalize Value.slice (some ⟨w.heap.size, 0, none⟩) 0 0 = vm at hm ⊢
  go_loopw [4, 10] (fun v i wr => ∃ k : Nat, k ≤ rs.length ∧ i = .int .i64 k ∧ OwnS 42 2 rnC w.heap.size wr v (rs.take k) ∧ Hid (∀ r ∈ rs.take k, r.2 ≤ 200) ∧ Below w.heap.size w wr) (fun _ i _ => rs.length - (intOf i).toNat)
  case atStart => exact ⟨0, Nat.zero_le _, rfl, by simpa using hm, fun r hr => by simp at hr, hbA⟩
  case round =>
    clear hm hbA
    obtain ⟨k, hk, rfl, how, HT, hbe⟩ := hrel
    have hsz := hbe.size
    by_cases h1 : k < rs.length
    · obtain ⟨⟨kd, c⟩, hq⟩ : ∃ r, rs[k]? = some r := ⟨_, List.getElem?_eq_getElem h1⟩
      have hc1 : -9223372036854775808 ≤ c := (HX.out (kd, c) (List.mem_of_getElem? hq)).1
      have hc2 : c ≤ 9223372036854775807 := (HX.out (kd, c) (List.mem_of_getElem? hq)).2
      obtain ⟨gb, ob, rfl, hc⟩ := HIN.out k _ hq
      have d0 := cell_below hbe (hc 0 (.int .i64 kd) rfl)
      have d1 := cell_below hbe (hc 1 (.int .i64 c) rfl)
      rw [Nat.add_zero] at d0
      rw [← Nat.add_assoc] at d1
      have how2 := how.alloc (.cells #[.int .i64 kd, .int .i64 c] 41)
      have hbW := hbe.alloc hbe.size (.cells #[.int .i64 kd, .int .i64 c] 41)
      have hcA := CellsAt.new wr #[.int .i64 kd, .int .i64 c] 41
      have htl : (rs.take k).length = k := by rw [List.length_take]; omega
      have HTL := Lib.hid htl
      have HOL := Lib.hid (fun q hq => (how.lt q hq).2)
      have HN : Hid (rs.take (k + 1) = rs.take k ++ [(kd, c)]) := by show _ = _; rw [List.take_add_one, hq]; rfl
      have hsW : w.heap.size ≤ (wr.alloc (.cells #[.int .i64 kd, .int .i64 c] 41)).heap.size := by simp; omega
      have HSW := Lib.hid hsW
      clear hc hq hbe how htl hsW
      go_wp2_with (at_builtin; go_must (refine wpList_pushSB rnC_len rnC_one Try.underlying30 infoR rfl how2 (kd, c) (by rw [HTL.out]; unfold maxLen; omega) (by rw [HTL.out]; omega) HSW.out rfl _ _ rfl (by rfl) _ _ _ (by rw [World.size_alloc]; rfl) (by rfl) ?_))
      intro v2 w2 how3 hg3 hn3
      have hb3 := OwnS.below how2 hbW hg3 HSW.out
      have hc3 : CellsAt w2 wr.heap.size 41 #[.int .i64 kd, .int .i64 c] := hcA.grown hg3 (fun h => by have := HOL.out _ h; omega)
      have f1 := hc3.cell 1 (v := .int .i64 c) rfl
      clear hg3 hn3 how2 hbW hcA hc3 d0 d1
      by_cases h2 : c ≤ 200
      · have e1 : decide (c > 200) = false := by simpa using h2
        have HT3 : Hid (∀ r ∈ rs.take (k + 1), r.2 ≤ 200) := by
          show ∀ r ∈ _, _
          intro r hr
          rw [HN.out] at hr
          rcases List.mem_append.1 hr with hr | hr
          · exact HT.out r hr
          · obtain rfl : r = (kd, c) := by simpa using hr
            exact h2
        go_wp2_with fail
        go_roundw
        case rel => exact ⟨k + 1, h1, by go_num, by rw [HN.out]; exact how3, HT3, hb3⟩
        case measure => simp only [intOf]; omega
      · have e1 : decide (c > 200) = true := by simp; omega
        go_wp2_with fail
        go_ret2
        exact OfPost.mk (.slice none 0 0) false rfl (fun h => by cases h) hb3
    · obtain rfl : rs.length = k := by omega
      have HT2 : Hid (∀ r ∈ rs, r.2 ≤ 200) := by have := HT.out; rw [List.take_length] at this; exact this
      rw [List.take_length] at how
      by_cases h2 : rs.length ≤ 40
      · have e1 : decide ((rs.length : Int) ≤ 40) = true := by simp; omega
        go_wp2_with fail
        go_ret2
        exact OfPost.mk _ true rfl (fun _ => ⟨how, h2, HT2.out⟩) hbe
      · have e1 : decide ((rs.length : Int) ≤ 40) = false := by simp; omega
        go_wp2_with fail
        go_ret2
        exact OfPost.mk _ false rfl (fun h => by cases h) hbe
end Go.Proofs.Ytidfjemblidjkaa
