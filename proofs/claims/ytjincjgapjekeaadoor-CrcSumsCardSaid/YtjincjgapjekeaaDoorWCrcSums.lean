/- The walk of CrcSums: the sum of all bytes, however they are parted. -/
import Derived.Test.YtjincjgapjekeaaDoorAlive05
import Derived.Test.YtjincjgapjekeaaDoorBytes
import Derived.Test.YtjincjgapjekeaaDoorCrcR
import Derived.Deep.RegionHeld3
namespace Go.Proofs.YtjincjgapjekeaaDoor
open Go Go.RowKit
set_option linter.unusedVariables false
theorem RowL.to {α : Type} {f : α → Value} {w : World} {a : Option Addr} {c : Nat} {xs : List α} (h : RowL f w (.slice a xs.length c) xs) (m : Nat) (hm : m ≤ xs.length) : RowL f w (.slice a m c) (xs.take m) := by
  have hl : (xs.take m).length = m := by simp; omega
  unfold RowL
  rw [hl]
  rcases h with ⟨h1, h2, _⟩ | ⟨b, o, c', hv, h1, h2, h3, h4⟩
  · obtain rfl : m = 0 := by omega
    exact .inl ⟨rfl, by simp, a, c, rfl⟩
  · cases hv
    refine .inr ⟨b, o, c, rfl, by omega, h2, h3, fun j u hu => h4 j u ?_⟩
    rw [List.getElem?_map, List.getElem?_take] at hu
    rw [List.getElem?_map]
    split at hu
    · exact hu
    · simp at hu
theorem row2 (w : World) (T : TypeId) (x y : Value) (a b : List UInt8) : RowL Prod.fst (w.alloc (.cells #[x, y] T)) (.slice (some ⟨w.heap.size, 0, none⟩) 2 2) [(x, a), (y, b)] := by
  have hct := CellsAt.new w #[x, y] T
  refine .inr ⟨w.heap.size, 0, 2, rfl, Nat.le_refl _, by decide, hct.lt, fun j u hu => ?_⟩
  rw [Nat.zero_add]
  exact hct.cell j (by simpa using hu)
/-- crc.Sum of two parts, in the world behind the making of its row -/
theorem csum2_any (w : World) (T : TypeId) (v u : Value) (bs cs : List UInt8) (hr : RowB w v bs) (hs : RowB w u cs) (hl1 : bs.length ≤ 1000000) (hl2 : cs.length ≤ 1000000) :
    Calls Tryd.prog 28 #[.slice (some ⟨w.heap.size, 0, none⟩) 2 2] (w.alloc (.cells #[v, u] T)) fun e w' => e = .returned (.int .u32 (csum (bs ++ cs))) ∧ Below w.heap.size w w' := by
  have hb : Below w.heap.size w (w.alloc (.cells #[v, u] T)) := (Below.refl _ _).alloc (Nat.le_refl _) _
  have h := csum_any _ [(v, bs), (u, cs)] _ (row2 w T v u bs cs) (fun p hp => by
    simp only [List.mem_cons, List.not_mem_nil, or_false] at hp
    rcases hp with rfl | rfl
    · exact hr.stays hb
    · exact hs.stays hb) (fun p hp => by
    simp only [List.mem_cons, List.not_mem_nil, or_false] at hp
    rcases hp with rfl | rfl
    · exact hl1
    · exact hl2) (by simp)
  rw [show joined [(v, bs), (u, cs)] = bs ++ cs from by simp [joined]] at h
  refine h.mono ?_
  rintro e w' ⟨rfl, hb2⟩
  exact ⟨rfl, hb.trans (hb2.mono hb.size)⟩
theorem csum0_any (w : World) : Calls Tryd.prog 28 #[.slice none 0 0] w fun e w' => e = .returned (.int .u32 0) ∧ Below w.heap.size w w' := by
  have h := csum_any (.slice none 0 0) [] w (RowL.nil _) (fun p hp => by cases hp) (fun p hp => by cases hp) (by simp)
  rw [show csum (joined []) = 0 from cnot_cnot 0] at h
  exact h
set_option maxRecDepth 100000 in
set_option maxHeartbeats 2000000 in
theorem walkCrcSums (w : World) (v : Value) (bs : List UInt8) (hr : RowB w v bs) (x : Int) (hx : -9223372036854775808 ≤ x ∧ x ≤ 9223372036854775807) (ea : Nat → Addr) (he1 : ErrAt w 2 (ea 1)) (he2 : ErrAt w 0 (ea 2)) (he18 : ErrAt w 1 (ea 18)) :
    Calls Tryd.prog 5 #[v, .int .i64 x] w fun e w' => e = .returned (.bool true) ∧ Below w.heap.size w w' := by
  obtain ⟨a, c, rfl, -, -⟩ := hr.gen.shape
  have HA := Lib.hid (alive05 ea w he1 he2 he18)
  have HROW : Hid (∀ w', Below w.heap.size w w' → RowB w' (.slice a bs.length c) bs) := fun w' hb => hr.stays hb
  have hcap := hr.gen.cap
  obtain ⟨hx1, hx2⟩ := hx
  clear he1 he2 he18 hr
  go_enter Tryd.func5, Tryd.ntmps5
  go_wp2_with fail
  refine HA.out.mono ?_
  rintro e w1 ⟨rfl, hb1⟩
  clear HA
  by_cases hl : 400 < bs.length
  · go_wp2_with fail
    go_ret
    exact ⟨rfl, hb1⟩
  · obtain ⟨A, hA, hAl⟩ : ∃ A : Nat, IntKind.u64.wrap x = (A : Int) ∧ A ≤ 18446744073709551615 := ⟨(IntKind.u64.wrap x).toNat, by rw [IntKind.wrap_u64]; omega, by rw [IntKind.wrap_u64]; omega⟩
    obtain ⟨k, hk, hkl⟩ : ∃ k : Nat, (A : Int).tmod ((bs.length : Int) + 1) = (k : Int) ∧ k ≤ bs.length := by
      refine ⟨((A : Int) % ((bs.length : Int) + 1)).toNat, ?_, ?_⟩
      · rw [Int.tmod_eq_emod_of_nonneg (by omega)]
        have := Int.emod_nonneg (A : Int) (b := (bs.length : Int) + 1) (by omega)
        omega
      · have h1 := Int.emod_lt_of_pos (A : Int) (b := (bs.length : Int) + 1) (by omega)
        have h2 := Int.emod_nonneg (A : Int) (b := (bs.length : Int) + 1) (by omega)
        omega
    have HB := Lib.hid (bytes_any _ bs w1 (HROW.out _ hb1) (by omega))
    go_wp2_with fail
    refine HB.out.mono ?_
    rintro e w2 ⟨v6, rfl, hm2, hb2⟩
    have hbe2 := hb1.trans (hb2.mono hb1.size)
    have HS := Lib.hid (rsum_any _ bs w2 (HROW.out _ hbe2) (by omega))
    clear HB hb1 hb2 hA hk
    go_wp2_with fail
    refine HS.out.mono ?_
    rintro e w3 ⟨rfl, rfl⟩
    clear HS
    obtain ⟨g, rfl, hBg, hgl, hbl⟩ := hm2
    have hm2 : MarkB w1.heap.size w2 (.slice (some ⟨g, 0, none⟩) bs.length (bs.length + 6)) bs := ⟨g, rfl, hBg, hgl, hbl⟩
    have HKp := Lib.hid (fun w' (hb : Below w2.heap.size w2 w') => kept_any _ _ _ bs w' (hm2.stays hb) (HROW.out _ (hbe2.trans (hb.mono hbe2.size))) (by omega))
    have HR1 := Lib.hid (fun w' (hb : Below w2.heap.size w2 w') T => csum1_any w' T _ bs (hm2.stays hb).row (by omega))
    have hn6 : (bs.length : Int) ≤ (bs.length : Int) + 6 := by omega
    have hki : (k : Int) ≤ bs.length := by omega
    have hki6 : (k : Int) ≤ (bs.length : Int) + 6 := by omega
    have hci : (bs.length : Int) ≤ c := by omega
    have hkc : (k : Int) ≤ c := by omega
    have hcl := csum_lt bs
    have hcli : (csum bs : Int) ≤ 4294967295 := by omega
    have HR1d : Hid (∀ w', Below w2.heap.size w2 w' → ∀ T, Calls Tryd.prog 28 #[.slice (some ⟨w'.heap.size, 0, none⟩) 1 1] (w'.alloc (.cells #[.slice (some ⟨g, 0, none⟩) bs.length (bs.length + 6)] T)).drew fun e w'' => e = .returned (.int .u32 (csum bs)) ∧ Below w'.heap.size w' w'') := fun w' hb T =>
      (HR1.out w'.drew hb.drew T).mono fun e w'' h => ⟨h.1, (Below.refl w'.heap.size w').drew.trans h.2⟩
    have hb2w : ∀ w', Below w2.heap.size w2 w' → Below w.heap.size w w' := fun w' hb => hbe2.trans (hb.mono hbe2.size)
    have hdrop : ∀ w', Below w2.heap.size w2 w' → RowB w' (.slice (if c = k then a else a.map fun x => x.add k) (bs.length - k) (c - k)) (bs.drop k) := fun w' hb => by
      have := (HROW.out w' (hb2w w' hb)).gen.part (l := k) (h := bs.length) hkl (Nat.le_refl _)
      rw [List.take_length] at this
      exact this
    have htake : ∀ w', Below w2.heap.size w2 w' → RowB w' (.slice (some ⟨g, 0, none⟩) k (bs.length + 6)) (bs.take k) := fun w' hb => (hm2.stays hb).row.gen.to k hkl
    have htake2 : ∀ w', Below w2.heap.size w2 w' → RowB w' (.slice a k c) (bs.take k) := fun w' hb => (HROW.out w' (hb2w w' hb)).gen.to k hkl
    have HR2 : Hid (∀ w', Below w2.heap.size w2 w' → ∀ T, Calls Tryd.prog 28 #[.slice (some ⟨w'.heap.size, 0, none⟩) 2 2] (w'.alloc (.cells #[.slice (some ⟨g, 0, none⟩) k (bs.length + 6), .slice (if c = k then a else a.map fun x => x.add k) (bs.length - k) (c - k)] T)) fun e w'' => e = .returned (.int .u32 (csum bs)) ∧ Below w'.heap.size w' w'') := fun w' hb T => by
      have := csum2_any w' T _ _ _ _ (htake w' hb) (hdrop w' hb) (by simp; omega) (by simp; omega)
      rw [List.take_append_drop] at this
      exact this
    have HR3 : Hid (∀ w', Below w2.heap.size w2 w' → Calls Tryd.prog 27 #[.slice a k c] w' fun e w'' => e = .returned (.int .u32 (csum (bs.take k))) ∧ w' = w'') := fun w' hb => rsum_any _ _ w' (htake2 w' hb) (by simp; omega)
    have HR4 : Hid (∀ w', Below w2.heap.size w2 w' → Calls Tryd.prog 29 #[.int .u32 (csum (bs.take k)), .slice (if c = k then a else a.map fun x => x.add k) (bs.length - k) (c - k)] w' fun e w'' => e = .returned (.int .u32 (csum bs)) ∧ Below w'.heap.size w' w'') := fun w' hb => by
      have := more_any (csum (bs.take k)) _ _ w' (csum_lt _) (hdrop w' hb) (by simp; omega)
      have e : cmore (csum (bs.take k)) (bs.drop k) = csum bs := by
        unfold csum
        rw [cmore_append, List.take_append_drop]
      rw [e] at this
      exact this
    have HR0 : Hid (∀ w', Calls Tryd.prog 28 #[.slice none 0 0] w' fun e w'' => e = .returned (.int .u32 0) ∧ Below w'.heap.size w' w'') := fun w' => csum0_any w'
    have HR1d : Hid (∀ w', Below w2.heap.size w2 w' → ∀ T, Calls Tryd.prog 28 #[.slice (some ⟨w'.heap.size, 0, none⟩) 1 1] (w'.alloc (.cells #[.slice (some ⟨g, 0, none⟩) bs.length (bs.length + 6)] T)).drew fun e w'' => e = .returned (.int .u32 (csum bs)) ∧ Below w'.heap.size w' w'') := fun w' hb T =>
      (HR1.out w'.drew hb.drew T).mono fun e w'' h => ⟨h.1, (Below.refl w'.heap.size w').drew.trans h.2⟩
    have hbd : Below w2.heap.size w2 w2.drew := (Below.refl _ _).drew
    have hbr : Below w2.heap.size w2 w2 := Below.refl _ _
    have hyy : ((csum bs : Int) == (csum bs : Int)) = true := by simp
    clear hbl hcl hm2 hb2w hdrop htake htake2
    generalize csum bs = S at *
    generalize csum (bs.take k) = S1 at *
    by_cases hck : c = k
    · subst hck
      have hbc : bs.length - c = 0 := by omega
      simp only [if_true, Nat.sub_self, hbc] at HR2 HR4
      clear hbc
      go_wp2_with fail
      go_region_held3 (fun w' => Below w2.heap.size w2 w')
        (first | assumption | exact Below.alloc (by assumption) (Below.size (by assumption)) _ | exact Below.drew (Below.alloc (by assumption) (Below.size (by assumption)) _))
        ((first
          | (go_at_call 15; refine (HKp.out _ (by assumption)).mono ?_; rintro e wA ⟨rfl, rfl⟩)
          | (go_at_call 27; refine (HR3.out _ (by assumption)).mono ?_; rintro e wA ⟨rfl, rfl⟩)
          | (go_at_call 29; refine (HR4.out _ (by assumption)).mono ?_; rintro e wA ⟨rfl, hbA⟩; have hbB := Below.trans (B := w2.heap.size) (a := w2) (by assumption) (hbA.mono (Below.size (by assumption))))
          | (go_at_call 28; (with_reducible refine (HR1d.out _ (by assumption) _).mono ?_); rintro e wA ⟨rfl, hbA⟩; have hbB := Below.trans (B := w2.heap.size) (a := w2) (by assumption) (hbA.mono (Below.size (by assumption))))
          | (go_at_call 28; (with_reducible refine (HR2.out _ (by assumption) _).mono ?_); rintro e wA ⟨rfl, hbA⟩; have hbB := Below.trans (B := w2.heap.size) (a := w2) (by assumption) (hbA.mono (Below.size (by assumption))))
          | (go_at_call 28; (with_reducible refine (HR0.out _).mono ?_); rintro e wA ⟨rfl, hbA⟩; have hbB := Below.trans (B := w2.heap.size) (a := w2) (by assumption) (hbA.mono (Below.size (by assumption))))
          | (trace_state; fail)))
      all_goals
        go_wp2_with fail
        go_ret
        exact ⟨rfl, hbe2.trans (hbB.mono hbe2.size)⟩

    · simp only [if_neg hck] at HR2 HR4
      go_wp2_with fail
      go_region_held3 (fun w' => Below w2.heap.size w2 w')
        (first | assumption | exact Below.alloc (by assumption) (Below.size (by assumption)) _ | exact Below.drew (Below.alloc (by assumption) (Below.size (by assumption)) _))
        ((first
          | (go_at_call 15; refine (HKp.out _ (by assumption)).mono ?_; rintro e wA ⟨rfl, rfl⟩)
          | (go_at_call 27; refine (HR3.out _ (by assumption)).mono ?_; rintro e wA ⟨rfl, rfl⟩)
          | (go_at_call 29; refine (HR4.out _ (by assumption)).mono ?_; rintro e wA ⟨rfl, hbA⟩; have hbB := Below.trans (B := w2.heap.size) (a := w2) (by assumption) (hbA.mono (Below.size (by assumption))))
          | (go_at_call 28; (with_reducible refine (HR1d.out _ (by assumption) _).mono ?_); rintro e wA ⟨rfl, hbA⟩; have hbB := Below.trans (B := w2.heap.size) (a := w2) (by assumption) (hbA.mono (Below.size (by assumption))))
          | (go_at_call 28; (with_reducible refine (HR2.out _ (by assumption) _).mono ?_); rintro e wA ⟨rfl, hbA⟩; have hbB := Below.trans (B := w2.heap.size) (a := w2) (by assumption) (hbA.mono (Below.size (by assumption))))
          | (go_at_call 28; (with_reducible refine (HR0.out _).mono ?_); rintro e wA ⟨rfl, hbA⟩; have hbB := Below.trans (B := w2.heap.size) (a := w2) (by assumption) (hbA.mono (Below.size (by assumption))))
          | (trace_state; fail)))
      all_goals
        go_wp2_with fail
        go_ret
        exact ⟨rfl, hbe2.trans (hbB.mono hbe2.size)⟩

end Go.Proofs.YtjincjgapjekeaaDoor
