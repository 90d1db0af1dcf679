/- Scripts, plain: what is filled, word by word. -/
import Derived.Test.YtbcpciegdmminaaGreatDoorScD
namespace Go.Proofs.YtbcpciegdmminaaGreatDoor
set_option linter.unusedVariables false
theorem plain_a {k : Int} (hk : k = 3 ∨ k = 6 ∨ k = 11) (ws : List Bs) : (fillA k ws).isNone = (((false || ws.isEmpty) || (numO (ws.headD [])).isNone) || !ws.tail.isEmpty) ∧ ∀ A, fillA k ws = some A → A = ⟨k, (numO (ws.headD [])).getD 0, 0, 0, 0, [], [], []⟩ := by
  have hf : fillA k ws = match ws with | [x] => (numO x).map fun n => { ac0 k with a := n } | _ => none := by
    unfold fillA
    rw [if_neg (by omega), if_pos hk]
    rfl
  rw [hf]
  match ws with
  | [] => exact ⟨rfl, fun A h => by cases h⟩
  | [x] =>
    simp only [List.headD_cons]
    cases hx : numO x with
    | none => exact ⟨rfl, fun A h => by cases h⟩
    | some n => exact ⟨rfl, fun A h => by cases h; rfl⟩
  | x :: y :: t => exact ⟨by simp, fun A h => by cases h⟩
theorem plain_1 (ws : List Bs) : (fillA 1 ws).isNone = (((false || ws.isEmpty) || (unB (ws.headD [])).isNone) || !ws.tail.isEmpty) ∧ ∀ A, fillA 1 ws = some A → A = ⟨1, 0, 0, 0, 0, (unB (ws.headD [])).getD [], [], []⟩ := by
  have hf : fillA 1 ws = match ws with | [x] => (unB x).map fun b => { ac0 1 with bs := b } | _ => none := by
    unfold fillA
    rw [if_pos rfl]
    rfl
  rw [hf]
  match ws with
  | [] => exact ⟨rfl, fun A h => by cases h⟩
  | [x] =>
    simp only [List.headD_cons]
    cases hx : unB x with
    | none => exact ⟨rfl, fun A h => by cases h⟩
    | some n => exact ⟨rfl, fun A h => by cases h; rfl⟩
  | x :: y :: t => exact ⟨by simp, fun A h => by cases h⟩
theorem plain_5 (ws : List Bs) : (fillA 5 ws).isNone = (((((false || ws.isEmpty) || (numO (ws.headD [])).isNone) || ws.tail.isEmpty) || (numO (ws.tail.headD [])).isNone) || !ws.tail.tail.isEmpty) ∧ ∀ A, fillA 5 ws = some A → A = ⟨5, (numO (ws.headD [])).getD 0, (numO (ws.tail.headD [])).getD 0, 0, 0, [], [], []⟩ := by
  have hf : fillA 5 ws = match ws with | [x, y] => (match numO x, numO y with | some m, some n => some { ac0 5 with a := m, b := n } | _, _ => none) | _ => none := by
    unfold fillA
    rw [if_neg (by omega), if_neg (by omega), if_pos rfl]
    rfl
  rw [hf]
  match ws with
  | [] => exact ⟨rfl, fun A h => by cases h⟩
  | [x] => exact ⟨by simp, fun A h => by cases h⟩
  | [x, y] =>
    simp only [List.headD_cons, List.tail_cons]
    cases hx : numO x with
    | none => exact ⟨by simp, fun A h => by cases h⟩
    | some n =>
      cases hy : numO y with
      | none => exact ⟨by simp, fun A h => by cases h⟩
      | some m => exact ⟨rfl, fun A h => by cases h; rfl⟩
  | x :: y :: z :: t => exact ⟨by simp, fun A h => by cases h⟩
theorem plain_4 (ws : List Bs) : (fillA 4 ws).isNone = (((((((((false || ws.isEmpty) || (numO (ws.headD [])).isNone) || ws.tail.isEmpty) || (numO (ws.tail.headD [])).isNone) || ws.tail.tail.isEmpty) || (numO (ws.tail.tail.headD [])).isNone) || ws.tail.tail.tail.isEmpty) || (polN (ws.tail.tail.tail.headD [])).isNone) || !ws.tail.tail.tail.tail.isEmpty) ∧
    ∀ A, fillA 4 ws = some A → A = ⟨4, (numO (ws.headD [])).getD 0, (numO (ws.tail.headD [])).getD 0, (numO (ws.tail.tail.headD [])).getD 0, (polN (ws.tail.tail.tail.headD [])).getD 0, [], [], []⟩ := by
  have hf : fillA 4 ws = match ws with | [x, y, z, p] => (match numO x, numO y, numO z, polN p with | some m, some n, some l, some q => some { ac0 4 with a := m, b := n, c := l, n := q } | _, _, _, _ => none) | _ => none := by
    unfold fillA
    rw [if_neg (by omega), if_neg (by omega), if_neg (by omega), if_pos rfl]
    rfl
  rw [hf]
  match ws with
  | [] => exact ⟨rfl, fun A h => by cases h⟩
  | [x] => exact ⟨by simp, fun A h => by cases h⟩
  | [x, y] => exact ⟨by simp, fun A h => by cases h⟩
  | [x, y, z] => exact ⟨by simp, fun A h => by cases h⟩
  | [x, y, z, p] =>
    simp only [List.headD_cons, List.tail_cons]
    cases hx : numO x with
    | none => exact ⟨by simp, fun A h => by cases h⟩
    | some n =>
      cases hy : numO y with
      | none => exact ⟨by simp, fun A h => by cases h⟩
      | some m =>
        cases hz : numO z with
        | none => exact ⟨by simp, fun A h => by cases h⟩
        | some l =>
          cases hp : polN p with
          | none => exact ⟨by simp, fun A h => by cases h⟩
          | some q => exact ⟨rfl, fun A h => by cases h; rfl⟩
  | x :: y :: z :: p :: q :: t => exact ⟨by simp, fun A h => by cases h⟩
theorem plain_8 (ws : List Bs) : (ws.headD [] = offW → (fillA 8 ws).isNone = ((false || ws.isEmpty) || !ws.tail.isEmpty) ∧ ∀ A, fillA 8 ws = some A → A = ⟨8, -1, 0, 0, 0, [], [], []⟩) ∧
    (ws.headD [] ≠ offW → (fillA 8 ws).isNone = (((false || ws.isEmpty) || (numO (ws.headD [])).isNone) || !ws.tail.isEmpty) ∧ ∀ A, fillA 8 ws = some A → A = ⟨8, (numO (ws.headD [])).getD 0, 0, 0, 0, [], [], []⟩) := by
  have hf : fillA 8 ws = match ws with | [x] => (if x = offW then some { ac0 8 with a := -1 } else (numO x).map fun n => { ac0 8 with a := n }) | _ => none := by
    unfold fillA
    rw [if_neg (by omega), if_neg (by omega), if_neg (by omega), if_neg (by omega), if_pos rfl]
    rfl
  rw [hf]
  match ws with
  | [] => exact ⟨fun _ => ⟨rfl, fun A h => by cases h⟩, fun _ => ⟨rfl, fun A h => by cases h⟩⟩
  | [x] =>
    simp only [List.headD_cons]
    constructor
    · intro hx
      rw [if_pos hx]
      exact ⟨rfl, fun A h => by cases h; rfl⟩
    · intro hx
      rw [if_neg hx]
      cases hn : numO x with
      | none => exact ⟨rfl, fun A h => by cases h⟩
      | some n => exact ⟨rfl, fun A h => by cases h; rfl⟩
  | x :: y :: t => exact ⟨fun _ => ⟨by simp, fun A h => by cases h⟩, fun _ => ⟨by simp, fun A h => by cases h⟩⟩
theorem plain_9 (ws : List Bs) : (fillA 9 ws).isNone = (((((decide (ws.tail.tail.headD [] ≠ tornW) || ((((decide (ws.headD [] ≠ keepW) || (false || ws.isEmpty)) || ws.tail.isEmpty) || (getL numO (ws.tail.headD [])).isNone) || ws.tail.tail.isEmpty)) || ws.tail.tail.tail.isEmpty) || (getL getT (ws.tail.tail.tail.headD [])).isNone)) || !ws.tail.tail.tail.tail.isEmpty) ∧
    ∀ A, fillA 9 ws = some A → A.k = 9 ∧ A.a = 0 ∧ A.b = 0 ∧ A.c = 0 ∧ A.n = 0 ∧ A.bs = [] ∧ getL numO (ws.tail.headD []) = some A.keep ∧ getL getT (ws.tail.tail.tail.headD []) = some A.torn := by
  have hf : fillA 9 ws = match ws with | [x, y, z, t] => (if x = keepW ∧ z = tornW then (match getL numO y, getL getT t with | some l, some m => some { ac0 9 with keep := l, torn := m } | _, _ => none) else none) | _ => none := by
    unfold fillA
    rw [if_neg (by omega), if_neg (by omega), if_neg (by omega), if_neg (by omega), if_neg (by omega), if_pos rfl]
    rfl
  rw [hf]
  match ws with
  | [] => exact ⟨by simp, fun A h => by cases h⟩
  | [x] => exact ⟨by simp, fun A h => by cases h⟩
  | [x, y] => exact ⟨by simp, fun A h => by cases h⟩
  | [x, y, z] => exact ⟨by simp, fun A h => by cases h⟩
  | [x, y, z, p] =>
    simp only [List.headD_cons, List.tail_cons]
    by_cases hxz : x = keepW ∧ z = tornW
    · rw [if_pos hxz]
      cases hy : getL numO y with
      | none => exact ⟨by simp, fun A h => by cases h⟩
      | some l =>
        cases hp : getL getT p with
        | none => exact ⟨by simp, fun A h => by cases h⟩
        | some m => exact ⟨by simp [hxz.1, hxz.2], fun A h => by cases h; exact ⟨rfl, rfl, rfl, rfl, rfl, rfl, rfl, rfl⟩⟩
    · rw [if_neg hxz]
      refine ⟨?_, fun A h => by cases h⟩
      by_cases hx : x = keepW
      · have hz : z ≠ tornW := fun e => hxz ⟨hx, e⟩
        simp [hz]
      · simp [hx]
  | x :: y :: z :: p :: q :: t => exact ⟨by simp, fun A h => by cases h⟩
theorem plain_0 {k : Int} (h1 : k ≠ 1) (h3 : k ≠ 3) (h6 : k ≠ 6) (h11 : k ≠ 11) (h5 : k ≠ 5) (h4 : k ≠ 4) (h8 : k ≠ 8) (h9 : k ≠ 9) (ws : List Bs) : (fillA k ws).isNone = (false || !ws.isEmpty) ∧ ∀ A, fillA k ws = some A → A = ⟨k, 0, 0, 0, 0, [], [], []⟩ := by
  have hf : fillA k ws = match ws with | [] => some (ac0 k) | _ => none := by
    unfold fillA
    rw [if_neg h1, if_neg (by omega), if_neg h5, if_neg h4, if_neg h8, if_neg h9]
    rfl
  rw [hf]
  cases ws with
  | nil => exact ⟨rfl, fun A h => by cases h; rfl⟩
  | cons x t => exact ⟨rfl, fun A h => by cases h⟩
end Go.Proofs.YtbcpciegdmminaaGreatDoor
