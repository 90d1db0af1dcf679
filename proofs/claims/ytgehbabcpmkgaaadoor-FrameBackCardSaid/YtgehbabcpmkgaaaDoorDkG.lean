/- Frames that were written stand, and are scanned as they were; plain. No program. -/
import Derived.Test.YtgehbabcpmkgaaaDoorDkF
namespace Go.Proofs.YtgehbabcpmkgaaaDoor
open Go
set_option linter.unusedVariables false
/-- how many sectors so many bytes need -/
def manyV (n : Nat) : Nat := (n + 75) / 64
/-- a frame stands at a sector -/
def Stands (d : Dm) (a : Int) (gen : Nat) (bs : List UInt8) : Prop := ¬ 8192 < bs.length ∧ gen < 4294967296 ∧ ∀ i : Nat, i < manyV bs.length → getV d (a + i) = padV (partV (frameV gen bs) i)
def filled (b : List UInt8) (n : Nat) : List UInt8 := b ++ List.replicate (64 * n - b.length) (b8 0)
theorem filled_part {b : List UInt8} {n i : Nat} (h1 : 64 * (n - 1) < b.length) (h2 : b.length ≤ 64 * n) (hi : i < n) : padV (partV b i) = ((filled b n).drop (64 * i)).take 64 := by
  unfold partV filled
  rw [List.drop_append_of_le_length (by omega)]
  by_cases h : 64 * i + 64 ≤ b.length
  · rw [padV_full (by rw [List.length_take, List.length_drop]; omega), List.take_append_of_le_length (by rw [List.length_drop]; omega)]
  · have e : (b.drop (64 * i)).take 64 = b.drop (64 * i) := List.take_of_length_le (by rw [List.length_drop]; omega)
    rw [e, padV_short (by rw [List.length_drop]; omega), List.length_drop, show 64 - (b.length - 64 * i) = 64 * n - b.length from by omega,
      List.take_of_length_le (by rw [List.length_append, List.length_drop, List.length_replicate]; omega)]
theorem frameV_len' {gen : Nat} {bs : List UInt8} (h : ¬ 8192 < bs.length) : (frameV gen bs).length = bs.length + 12 := by
  rw [(frameV_ok h).1, sealed_len, frameH_len]
section
variable {d : Dm} {a e : Int} {gen : Nat} {bs : List UInt8}
theorem Stands.load (h : Stands d a gen bs) : ∀ k, k ≤ manyV bs.length → loadV d a k = (filled (frameV gen bs) (manyV bs.length)).take (64 * k)
  | 0, _ => by rw [Nat.mul_zero, List.take_zero]; rfl
  | k + 1, hk => by
    have hl := frameV_len' (gen := gen) h.1
    rw [loadV, Stands.load h k (by omega), h.2.2 k (by omega), filled_part (n := manyV bs.length) (by rw [hl]; unfold manyV at *; omega) (by rw [hl]; unfold manyV at *; omega) (by omega), show 64 * (k + 1) = 64 * k + 64 from by omega, List.take_add]
theorem Stands.many_pos (h : Stands d a gen bs) : 1 ≤ manyV bs.length := by unfold manyV; omega
theorem Stands.first (ho : d.Ok) (h : Stands d a gen bs) (k : Nat) (hk : k ≤ 64) : (getV d a).take k = (filled (frameV gen bs) (manyV bs.length)).take k := by
  have h1 := h.load 1 h.many_pos
  have h2 := loadV_take ho a 0
  rw [h1, Nat.mul_one, List.take_take, Nat.min_self] at h2
  rw [← h2, List.take_take, Nat.min_eq_left hk]
theorem filled_take {b : List UInt8} {n k : Nat} (hk : k ≤ b.length) : (filled b n).take k = b.take k := by unfold filled; rw [List.take_append_of_le_length hk]
theorem frame_parts (h : ¬ 8192 < bs.length) (hg : gen < 4294967296) : frameV gen bs = fput 4 gen ++ (fput 4 bs.length ++ (bs ++ fput 4 (csum (frameH gen bs)))) := by
  rw [(frameV_ok h).1]; unfold sealed
  rw [show frameH gen bs ++ _ = fput 4 gen ++ fput 4 bs.length ++ bs ++ fput 4 (csum (frameH gen bs)) from rfl]
  simp only [List.append_assoc]
theorem fput4_val {n : Nat} (h : n < 4294967296) : fixedV (fput 4 n) = n := by rw [fput_put, fixedV_put]; exact Nat.mod_eq_of_lt h
theorem take8_drop4 (l : List UInt8) : (l.take 8).drop 4 = (l.drop 4).take 4 := by rw [List.take_drop]
theorem Stands.long (ho : d.Ok) (h : Stands d a gen bs) : longV d a = bs.length := by
  have hl := frameV_len' (gen := gen) h.1
  unfold longV
  rw [show ((getV d a).drop 4).take 4 = ((getV d a).take 8).drop 4 from by rw [List.take_drop], h.first ho 8 (by omega), filled_take (by omega), frame_parts h.1 h.2.1, take8_drop4,
    List.drop_left' (fput_len 4 gen), List.take_left' (fput_len 4 _)]
  exact fput4_val (by have := h.1; omega)
theorem Stands.genV (ho : d.Ok) (h : Stands d a gen bs) : fixedV ((getV d a).take 4) = gen := by
  have hl := frameV_len' (gen := gen) h.1
  rw [h.first ho 4 (by omega), filled_take (by omega), frame_parts h.1 h.2.1, List.take_left' (fput_len 4 gen)]
  exact fput4_val h.2.1
theorem Stands.sum (ho : d.Ok) (h : Stands d a gen bs) : sumOk d a := by
  have hl := frameV_len' (gen := gen) h.1
  have hm : bs.length + 12 ≤ 64 * manyV bs.length := by unfold manyV; omega
  have hF := (frameV_ok (gen := gen) h.1).1
  unfold sumOk
  rw [h.long ho, show (bs.length + 75) / 64 = manyV bs.length from rfl, h.load _ (Nat.le_refl _), List.take_take, Nat.min_eq_left (by omega), filled_take (by omega),
    show (((filled (frameV gen bs) (manyV bs.length)).take (64 * manyV bs.length)).drop (8 + bs.length)).take 4 = ((filled (frameV gen bs) (manyV bs.length)).take (8 + bs.length + 4)).drop (8 + bs.length) from by
      rw [List.take_drop, List.take_take, Nat.min_eq_left (by omega)], filled_take (by omega), hF]
  unfold sealed
  rw [List.take_left' (by rw [frameH_len]; omega), List.take_of_length_le (by rw [List.length_append, frameH_len, fput_len]; omega), List.drop_left' (by rw [frameH_len]; omega)]
  exact (fput4_val (csum_lt _)).symm
theorem Stands.payload (ho : d.Ok) (h : Stands d a gen bs) : ((loadV d a ((longV d a + 75) / 64)).take (8 + longV d a)).drop 8 = bs := by
  have hl := frameV_len' (gen := gen) h.1
  have hm : bs.length + 12 ≤ 64 * manyV bs.length := by unfold manyV; omega
  rw [h.long ho, show (bs.length + 75) / 64 = manyV bs.length from rfl, h.load _ (Nat.le_refl _), List.take_take, Nat.min_eq_left (by omega), filled_take (by omega), frame_parts h.1 h.2.1,
    ← List.take_drop, show (8 : Nat) = 4 + 4 from rfl, ← List.drop_drop, List.drop_left' (fput_len 4 gen), List.drop_left' (fput_len 4 _)]
  rw [List.take_left]
theorem Stands.at (ho : d.Ok) (h : Stands d a gen bs) : frameAt d a = ⟨a, manyV bs.length, gen, bs⟩ := by
  unfold frameAt
  rw [h.payload ho, h.genV ho, h.long ho]; rfl
theorem Stands.read (ho : d.Ok) (h : Stands d a gen bs) (h0 : 0 ≤ a) (he : e ≤ d.dur.length) (hn : a + manyV bs.length ≤ e) : frameRK d a e = 0 := by
  have hp := h.many_pos
  have h1 := h.1
  unfold frameRK
  rw [if_neg (by omega), if_neg (by omega), h.long ho, if_neg (by unfold manyV at hn; omega), if_pos (h.sum ho)]
end
/-- frames stand one behind the other -/
def StandAll (d : Dm) : Int → List (Nat × List UInt8) → Int → Prop
  | a, [], e => a = e
  | a, p :: r, e => Stands d a p.1 p.2 ∧ StandAll d (a + manyV p.2.length) r e
def frsOf : Int → List (Nat × List UInt8) → List Fr
  | _, [] => []
  | a, p :: r => ⟨a, manyV p.2.length, p.1, p.2⟩ :: frsOf (a + manyV p.2.length) r
theorem frsOf_len : ∀ (l : List (Nat × List UInt8)) (a : Int), (frsOf a l).length = l.length
  | [], _ => rfl
  | p :: r, a => by rw [frsOf, List.length_cons, frsOf_len r, List.length_cons]
theorem frsOf_get : ∀ (l : List (Nat × List UInt8)) (a : Int) (i : Nat) (p : Nat × List UInt8), l[i]? = some p → ∃ f, (frsOf a l)[i]? = some f ∧ f.gen = p.1 ∧ f.load = p.2
  | [], _, _, _, h => by simp at h
  | q :: r, a, 0, p, h => by obtain rfl : q = p := by simpa using h
                             exact ⟨_, rfl, rfl, rfl⟩
  | q :: r, a, i + 1, p, h => by rw [frsOf]; exact frsOf_get r _ i p (by simpa using h)
theorem StandAll.le {d : Dm} : ∀ {l : List (Nat × List UInt8)} {a e : Int}, StandAll d a l e → a + l.length ≤ e
  | [], a, e, h => by have h' : a = e := h; simp; omega
  | p :: r, a, e, h => by
    have := StandAll.le h.2
    have := h.1.many_pos
    simp only [List.length_cons]; omega
theorem StandAll.snoc {d : Dm} : ∀ {l : List (Nat × List UInt8)} {a e : Int} {p : Nat × List UInt8}, StandAll d a l e → Stands d e p.1 p.2 → StandAll d a (l ++ [p]) (e + manyV p.2.length)
  | [], a, e, p, h, hp => by have h' : a = e := h; subst h'; exact ⟨hp, rfl⟩
  | q :: r, a, e, p, h, hp => ⟨h.1, StandAll.snoc h.2 hp⟩
theorem Stands.congr {d d' : Dm} {a e : Int} {gen : Nat} {bs : List UInt8} (h : Stands d a gen bs) (he : a + manyV bs.length ≤ e) (hd : ∀ y, y < e → getV d' y = getV d y) : Stands d' a gen bs :=
  ⟨h.1, h.2.1, fun i hi => by rw [hd _ (by omega)]; exact h.2.2 i hi⟩
theorem StandAll.congr {d d' : Dm} : ∀ {l : List (Nat × List UInt8)} {a e : Int}, StandAll d a l e → (∀ y, y < e → getV d' y = getV d y) → StandAll d' a l e
  | [], _, _, h, _ => h
  | p :: r, a, e, h, hd => by
    have h2 := StandAll.le h.2
    exact ⟨h.1.congr (e := e) (by omega) hd, StandAll.congr h.2 hd⟩
/-- the generations rise, from least on, none above most -/
def Rise : Nat → List (Nat × List UInt8) → Nat → Prop
  | _, [], _ => True
  | least, p :: r, most => least ≤ p.1 ∧ p.1 ≤ most ∧ Rise p.1 r most
theorem StandAll.scan {d : Dm} (ho : d.Ok) : ∀ {l : List (Nat × List UInt8)} {a e : Int} {least most : Nat} (k : Nat), StandAll d a l e → 0 ≤ a → e ≤ d.dur.length → Rise least l most → l.length ≤ k → scanV d e most k a least = frsOf a l
  | [], a, e, least, most, k, h, h0, he, hr, hk => by
    have h' : a = e := h
    rw [scanV_stop (by omega)]; rfl
  | p :: r, a, e, least, most, k, h, h0, he, hr, hk => by
    obtain ⟨k, rfl⟩ : ∃ j, k = j + 1 := ⟨k - 1, by simp at hk; omega⟩
    have h2 := StandAll.le h.2
    have hp := h.1.many_pos
    have hat := h.1.at ho
    rw [scanV_go ⟨by omega, h.1.read ho h0 he (by omega), by rw [hat]; exact hr.1, by rw [hat]; exact hr.2.1⟩, hat, frsOf]
    rw [StandAll.scan ho k h.2 (by omega) he hr.2.2 (by simp at hk; omega)]
theorem StandAll.all {d : Dm} (ho : d.Ok) {l : List (Nat × List UInt8)} {e : Int} {least most : Nat} (h : StandAll d 0 l e) (he : e ≤ d.dur.length) (hr : Rise least l most) : scanAll d 0 e least most = frsOf 0 l ∧ scanK d 0 e = 0 := by
  have h2 := StandAll.le h
  have hk : scanK d 0 e = 0 := by unfold scanK; rw [if_neg (by omega)]
  unfold scanAll
  rw [if_pos hk, StandAll.scan ho _ h (by omega) he hr (by omega)]
  exact ⟨rfl, hk⟩
/-- n sectors are written, with power that does not end -/
theorem wAll_run {b : List UInt8} {a : Int} : ∀ (n i : Nat) {d : Dm}, d.fuse = -1 → (∀ j : Nat, i ≤ j → j < i + n → d.has (a + j)) →
    (wAll b a n i d).2 = 0 ∧ (wAll b a n i d).1.fuse = -1 ∧ (∀ j : Nat, i ≤ j → j < i + n → getV (wAll b a n i d).1 (a + j) = padV (partV b j)) ∧ ∀ y, y < a + i → getV (wAll b a n i d).1 y = getV d y
  | 0, i, d, hf, _ => ⟨rfl, hf, fun j h1 h2 => by omega, fun _ _ => rfl⟩
  | n + 1, i, d, hf, hh => by
    have hk : writeK d (a + i) (partV b i) = 0 := writeK_of (hh i (Nat.le_refl _) (by omega)) (partV_len _ _) (by rw [hf]; decide)
    have hdur := writeM_dur d (a + i) (partV b i)
    have hfu : (writeM d (a + i) (partV b i)).fuse = -1 := by rw [writeM_ok hk]; show (if 0 < d.fuse then d.fuse - 1 else d.fuse) = -1; rw [hf]; rfl
    have hwr : ∀ y, y ≠ a + i → getV (writeM d (a + i) (partV b i)) y = getV d y := fun y hy => by
      rw [writeM_ok hk]; unfold getV; simp only [if_neg hy]
    have hat : getV (writeM d (a + i) (partV b i)) (a + i) = padV (partV b i) := by
      rw [writeM_ok hk]; unfold getV; simp
    obtain ⟨r1, r2, r3, r4⟩ := wAll_run (b := b) (a := a) n (i + 1) hfu (fun j h1 h2 => by
      have := hh j (by omega) (by omega)
      unfold Dm.has at this ⊢; rw [hdur]; exact this)
    rw [wAll_go hk]
    refine ⟨r1, r2, fun j h1 h2 => ?_, fun y hy => ?_⟩
    · by_cases e : j = i
      · subst e; rw [r4 _ (by omega), hat]
      · exact r3 j (by omega) (by omega)
    · rw [r4 _ (by omega), hwr _ (by omega)]
/-- what a write does when there is power: a number, or the frame stands behind what stood -/
theorem frameW_stands {d : Dm} (ho : d.Ok) (hf : d.fuse = -1) {a e : Int} {gen : Nat} (hg : gen < 4294967296) {bs : List UInt8} (h0 : 0 ≤ a) (he : e ≤ d.dur.length) :
    ((frameW d a e gen bs).2.2 ≠ 0 ∧ (frameW d a e gen bs).1 = d) ∨
    ((frameW d a e gen bs).2.2 = 0 ∧ (frameW d a e gen bs).2.1 = manyV bs.length ∧ (frameW d a e gen bs).1.fuse = -1 ∧ a + manyV bs.length ≤ e ∧ Stands (frameW d a e gen bs).1 a gen bs ∧ ∀ y, y < a → getV (frameW d a e gen bs).1 y = getV d y) := by
  by_cases h1 : 8192 < bs.length
  · rw [frameW_long h1]; exact .inl ⟨fun h => (by cases h), rfl⟩
  · have h2 : ¬ (a < 0 ∨ (d.dur.length : Int) < e) := by omega
    by_cases h3 : e ≤ a ∨ e - a < sectorsV bs.length
    · rw [frameW_full h1 h2 h3]; exact .inl ⟨fun h => (by cases h), rfl⟩
    · have hs := sectorsV_small h1
      rw [hs] at h3
      obtain ⟨r1, r2, r3, r4⟩ := wAll_run (b := frameV gen bs) (a := a) (manyV bs.length) 0 hf (fun j _ hj => by
        unfold Dm.has; have h3' : ¬ (e - a < (manyV bs.length : Int)) := fun h => h3 (.inr h)
        omega)
      obtain ⟨d', k, hw⟩ : ∃ d' k, wAll (frameV gen bs) a (manyV bs.length) 0 d = (d', k) := ⟨_, _, rfl⟩
      rw [hw] at r1 r2 r3 r4
      obtain rfl : k = 0 := r1
      have hgo := frameW_go h1 h2 (by rw [hs]; exact h3) hw
      rw [hgo]
      refine .inr ⟨rfl, ?_, r2, ?_, ⟨h1, hg, fun i hi => r3 i (Nat.zero_le _) (by omega)⟩, fun y hy => r4 y (by simpa using hy)⟩
      · show (if 0 = 0 then sectorsV (bs.length : Int) else 0) = _
        rw [if_pos rfl, hs]; rfl
      · have h3' : ¬ (e - a < (manyV bs.length : Int)) := fun h => h3 (.inr h)
        omega
end Go.Proofs.YtgehbabcpmkgaaaDoor
