/- frame.Read, Scan of no disk; frame.Next; Same; walked. -/
import Derived.Test.YtgehbabcpmkgaaaDoorDkH
import Derived.Test.YtgehbabcpmkgaaaDoorDkI
namespace Go.Proofs.YtgehbabcpmkgaaaDoor
open Go Go.RowKit
set_option linter.unusedVariables false
set_option maxRecDepth 100000 in
theorem fread_nil (ea : Nat → Addr) (w : World) (a e : Int) (hE : ∀ W, Below w.heap.size w W → ErrsFew ea W) :
    Calls Tryd.prog 62 #[.pointer none, .int .i64 a, .int .i64 e] w fun e' w' => e' = .returned (.tuple #[.agg #[.int .i64 0, .int .i64 0, .int .u32 0, .slice none 0 0], .iface 248 (.pointer (some (ea 14)))]) ∧ Below w.heap.size w w' := by
  have hb0 : Below w.heap.size w (w.alloc (.cells #[.int .i64 0, .int .i64 0, .int .u32 0, .slice none 0 0] 122)) := (Below.refl _ _).alloc (Nat.le_refl _) _
  have hC := check_nil ea _ a e (hE _ hb0).e14
  rw [EV_pos ea (by decide)] at hC
  have HC := Lib.hid hC
  have HB0 := Lib.hid hb0
  clear hC hb0 hE
  go_enter Tryd.func62, Tryd.ntmps62
  go_wp2_with fail
  refine HC.out.mono ?_
  rintro e' w1 ⟨rfl, rfl⟩
  go_wp2_with fail
  exact bodyPost_ret (v := .tuple #[.agg #[.int .i64 0, .int .i64 0, .int .u32 0, .slice none 0 0], .iface 248 (.pointer (some (ea 14)))]) (by simp [results, Tryd.results62, go_sem]) rfl ⟨rfl, HB0.out⟩
theorem fscan_nil (ea : Nat → Addr) (w : World) (a e : Int) (l m : Int) (h14 : ErrAt w 5 (ea 14)) :
    Calls Tryd.prog 65 #[.pointer none, .int .i64 a, .int .i64 e, .int .u32 l, .int .u32 m] w fun e' w' => e' = .returned (.tuple #[.slice none 0 0, .iface 248 (.pointer (some (ea 14)))]) ∧ w = w' := by
  have hC := check_nil ea w a e h14
  rw [EV_pos ea (by decide)] at hC
  have HC := Lib.hid hC
  clear hC h14
  go_enter Tryd.func65, Tryd.ntmps65
  go_wp2_with fail
  refine HC.out.mono ?_
  rintro e' w1 ⟨rfl, rfl⟩
  go_wp2_with fail
  go_ret2
  exact ⟨rfl, rfl⟩
theorem same_yes (w : World) (A M : Int) (G : Int) (va : Option Addr) (vc : Nat) (P : List UInt8) (hr : RowB w (.slice va P.length vc) P) :
    Calls Tryd.prog 64 #[.agg #[.int .i64 A, .int .i64 M, .int .u32 G, .slice va P.length vc], .agg #[.int .i64 A, .int .i64 M, .int .u32 G, .string (strB P)]] w fun e' w' => e' = .returned (.bool true) ∧ Below w.heap.size w w' := by
  have hb1 : Below w.heap.size w (w.alloc (.cells #[.int .i64 A, .int .i64 M, .int .u32 G, .slice va P.length vc] 122)) := (Below.refl _ _).alloc (Nat.le_refl _) _
  have hb2 : Below w.heap.size w ((w.alloc (.cells #[.int .i64 A, .int .i64 M, .int .u32 G, .slice va P.length vc] 122)).alloc (.cells #[.int .i64 A, .int .i64 M, .int .u32 G, .string (strB P)] 126)) := hb1.alloc (by simp) _
  have s := convert_str (hr.stays hb2)
  have HB := Lib.hid hb2
  have e1 : (A == A) = true := by simp
  have e2 : (M == M) = true := by simp
  have e3 : (G == G) = true := by simp
  have e4 : ((strB P).toList == (strB P).toList) = true := by simp
  clear hr hb1 hb2
  go_enter Tryd.func64, Tryd.ntmps64
  go_wp2_with fail
  go_ret
  exact ⟨rfl, HB.out⟩
def nextV (l : List Fr) (a : Int) : Int := match l.getLast? with
  | none => a
  | some F => F.at' + F.many
theorem nextV_nil (a : Int) : nextV [] a = a := rfl
theorem nextV_snoc (l : List Fr) (F : Fr) (a : Int) : nextV (l ++ [F]) a = F.at' + F.many := by unfold nextV; simp
theorem nextV_last {l : List Fr} {F : Fr} {a : Int} (h : l[l.length - 1]? = some F) : nextV l a = F.at' + F.many := by
  unfold nextV; rw [List.getLast?_eq_getElem?, h]
theorem nextV_take {l : List Fr} {k : Nat} {F : Fr} (h : l[k]? = some F) (a : Int) : nextV (l.take (k + 1)) a = F.at' + F.many := by
  rw [List.take_add_one, h]; exact nextV_snoc _ _ _
theorem fnext_any (w : World) (v : Value) (fs : List Fp) (hr : RowS frC w v fs) (a : Int) (hb : ∀ p ∈ fs, 0 ≤ p.f.at' ∧ 0 ≤ p.f.many ∧ p.f.at' + p.f.many ≤ 1000000) :
    Calls Tryd.prog 67 #[v, .int .i64 a] w fun e' w' => e' = .returned (.int .i64 (nextV (fs.map Fp.f) a)) ∧ Below w.heap.size w w' := by
  obtain ⟨va, vc, rfl, hl, hin⟩ := hr.shape frC_len
  unfold maxLen at hl
  clear hr
  by_cases h0 : fs.length = 0
  · obtain rfl : fs = [] := List.length_eq_zero_iff.1 h0
    clear hin hb h0
    go_enter Tryd.func67, Tryd.ntmps67
    go_wp2_with fail
    go_ret
    exact ⟨rfl, Below.refl _ _⟩
  · obtain ⟨n, hn⟩ : ∃ n, fs.length = n + 1 := ⟨fs.length - 1, by omega⟩
    obtain ⟨⟨pa, pl, pc, ⟨A, M, G, P⟩⟩, hp⟩ : ∃ p, fs[n]? = some p := ⟨_, List.getElem?_eq_getElem (by omega)⟩
    obtain ⟨b1, b2, b3⟩ := hb _ (List.mem_of_getElem? hp)
    replace b1 : 0 ≤ A := b1
    replace b2 : 0 ≤ M := b2
    replace b3 : A + M ≤ 1000000 := b3
    have HN : Hid (nextV (fs.map Fp.f) a = A + M) := nextV_last (F := ⟨A, M, G, P⟩) (by rw [List.length_map, hn, Nat.add_sub_cancel, List.getElem?_map, hp]; rfl)
    obtain ⟨bb, oo, rfl, hc⟩ := hin n _ hp
    have d0 : w.cell? ⟨bb, oo + (n * 4 + 0), none⟩ = some (.int .i64 A) := hc 0 _ rfl
    have d1 : w.cell? ⟨bb, oo + (n * 4 + 1), none⟩ = some (.int .i64 M) := hc 1 _ rfl
    have d2 : w.cell? ⟨bb, oo + (n * 4 + 2), none⟩ = some (.int .u32 G) := hc 2 _ rfl
    have d3 : w.cell? ⟨bb, oo + (n * 4 + 3), none⟩ = some (.slice pa pl pc) := hc 3 _ rfl
    rw [Nat.add_zero] at d0
    rw [← Nat.add_assoc] at d1 d2 d3
    have HB : Hid (Below w.heap.size w (w.alloc (.cells #[.int .i64 A, .int .i64 M, .int .u32 G, .slice pa pl pc] 122))) := (Below.refl _ _).alloc (Nat.le_refl _) _
    rw [hn] at hl ⊢
    have i1 : ((n + 1 : Nat) : Int) - 1 = (n : Int) := by omega
    clear hin hb h0 hp hc hn
    go_enter Tryd.func67, Tryd.ntmps67
    go_wp2_with fail
    go_ret
    exact ⟨ret1 (by rw [HN.out]; rfl), HB.out⟩
theorem scanV_in {d : Dm} {e : Int} {most : Nat} (he : e ≤ d.dur.length) : ∀ (k : Nat) (a : Int) (least : Nat), ∀ F ∈ scanV d e most k a least, 0 ≤ F.at' ∧ 1 ≤ F.many ∧ F.at' + F.many ≤ e ∧ F.gen ≤ 4294967295
  | 0, _, _, F, h => by cases h
  | k + 1, a, least, F, h => by
    by_cases hg : a < e ∧ frameRK d a e = 0 ∧ least ≤ (frameAt d a).gen ∧ (frameAt d a).gen ≤ most
    · rw [scanV_go hg] at h
      rcases List.mem_cons.1 h with rfl | h
      · obtain ⟨z1, z2, z3, z4, z5, -⟩ := frameRK_zero hg.2.1
        refine ⟨z1, ?_, ?_, num4_le _ 0⟩
        · show (1 : Int) ≤ ((longV d a + 75) / 64 : Nat); omega
        · show a + ((longV d a + 75) / 64 : Nat) ≤ e; omega
      · exact scanV_in he k _ _ F h
    · rw [scanV_stop hg] at h; cases h
theorem scanAll_in {d : Dm} (ho : d.Ok) {a e : Int} {least most : Nat} : ∀ F ∈ scanAll d a e least most, 0 ≤ F.at' ∧ 1 ≤ F.many ∧ F.at' + F.many ≤ 1024 ∧ F.gen ≤ 4294967295 := fun F h => by
  unfold scanAll at h
  have hs := ho.size
  split at h
  · rename_i hk
    have he : e ≤ d.dur.length := by unfold scanK at hk; split at hk <;> omega
    have := scanV_in he _ _ _ F h
    omega
  · cases h
theorem frameRV_gen (d : Dm) (a e : Int) : (frameRV d a e).gen ≤ 4294967295 := by
  unfold frameRV
  split
  · exact num4_le _ 0
  · exact Nat.zero_le _
end Go.Proofs.YtgehbabcpmkgaaaDoor
