/- A region that draws its order: what is loaded may be taken first, though an operation that waits for it turns it later. -/
import Derived.Deep.RegionHeld3
namespace Go.Proofs.YtcjflglpkpkflaaDoor
open Go
set_option linter.unusedVariables false
section
variable {P : Program} {md : Region.Mode} {ops : Array Oper} {Q : Exit → Act → World → Prop} {C : World → Prop} {k : Nat}
/-- whatever order is picked; C holds behind every operation, as long as number k has not come up -/
def wpAnyK (P : Program) (md : Region.Mode) (ops : Array Oper) (Q : Exit → Act → World → Prop) (C : World → Prop) (k : Nat) : Nat → Array Bool → Act → World → Prop
  | 0, listed, a, w => Region.ready md ops listed = [] ∧ Q .normal a w
  | fuel + 1, listed, a, w => (Region.ready md ops listed = [] → Q .normal a w) ∧
    ∀ i ∈ Region.ready md ops listed, wpOp P ops Q i (fun a' w' => ((listed.setIfInBounds i true).getD k false = false → C w') ∧ wpAnyK P md ops Q C k fuel (listed.setIfInBounds i true) a' w') a w
theorem wpAny_of_K : ∀ (fuel : Nat) (listed : Array Bool) (a : Act) (w : World), wpAnyK P md ops Q C k fuel listed a w → wpAny P md ops Q fuel listed a w
  | 0, _, _, _, h => h
  | fuel + 1, _, _, _, h => ⟨h.1, fun i hi => wpOp_mono (fun a' w' h' => wpAny_of_K fuel _ a' w' h'.2) (h.2 i hi)⟩
def waitsB (md : Region.Mode) (ops : Array Oper) (i j : Nat) : Bool := match ops[j]? with
  | some o => o.after.any fun e => Region.binds md e && e.on == i
  | none => false
/-- each waits for the one ahead of it -/
def chainB (md : Region.Mode) (ops : Array Oper) : Nat → List Nat → Bool
  | _, [] => true
  | i, j :: r => waitsB md ops i j && chainB md ops j r
theorem chain_no {listed : Array Bool} : ∀ (c : List Nat) (i j : Nat), chainB md ops i c = true → listed.getD i false = false → (∀ x ∈ c, listed.getD x false = false) → j ∈ Region.ready md ops listed → j ∉ c
  | [], _, _, _, _, _, _ => by simp
  | y :: r, i, j, hc, hi, hu, hj => by
    simp only [chainB, Bool.and_eq_true] at hc
    intro hm
    rcases List.mem_cons.1 hm with rfl | hm
    · obtain ⟨_, o, ho, hall⟩ := mem_ready.1 hj
      have h1 := hc.1
      unfold waitsB at h1
      rw [ho] at h1
      obtain ⟨e, he, h2⟩ := Array.any_eq_true'.1 h1
      simp only [Bool.and_eq_true, beq_iff_eq] at h2
      have h3 := hall e he h2.1
      rw [h2.2, hi] at h3
      cases h3
    · exact chain_no r y j hc.2 (hu y (by simp)) (fun x hx => hu x (by simp [hx])) hj hm
theorem getD_other {listed : Array Bool} {i x : Nat} (h : i ≠ x) : (listed.setIfInBounds i true).getD x false = listed.getD x false := by
  simp [Array.getElem?_setIfInBounds_ne h]
/-- an operation that yields its value in every world that meets C may be taken first, where number k waits for it (through the chain) -/
theorem wpAnyK_first {i : Nat} {oi : Oper} {v : Value} {c : List Nat} (hi : ops[i]? = some oi) (hsel : ∀ (j : Nat) (o : Oper) cs b, ops[j]? = some o → o.op ≠ .select cs b)
    (hQ : ∀ c a w, Q (.panic c) (a.put oi.dst v) w → Q (.panic c) a w) (hc : chainB md ops i c = true) (hk : k ∈ c) (hic : i ∉ c) :
    ∀ (fuel : Nat) (listed : Array Bool) (a : Act) (w : World),
      (∀ j oj, ops[j]? = some oj → j ≠ i → listed.getD j true = false → (∀ e ∈ oj.after, Region.binds md e = true → e.on ≠ i) → oi.apart ops oj = true) →
      i ∈ Region.ready md ops listed → (∀ x ∈ c, listed.getD x false = false) → YieldsIf P ops C oi v a → C w →
      wpAnyK P md ops Q C k fuel (listed.setIfInBounds i true) (a.put oi.dst v) w → wpAnyK P md ops Q C k (fuel + 1) listed a w := by
  intro fuel
  induction fuel with
  | zero =>
    intro listed a w _ hr hu hy hS H
    refine ⟨fun h => (by rw [h] at hr; cases hr), fun j hj => ?_⟩
    by_cases hji : j = i
    · subst hji; exact hy.wpOp hi hS ⟨fun _ => hS, H⟩
    · have := ready_mono hj hji
      rw [H.1] at this
      cases this
  | succ fuel ih =>
    intro listed a w hfree hr hu hy hS H
    refine ⟨fun h => (by rw [h] at hr; cases hr), fun j hj => ?_⟩
    by_cases hji : j = i
    · subst hji; exact hy.wpOp hi hS ⟨fun _ => hS, H⟩
    · have h1 := H.2 j (ready_mono hj hji)
      obtain ⟨hjun, oj, hoj, hall⟩ := mem_ready.1 hj
      have hiun : listed.getD i false = false := by
        have h0 := (mem_ready.1 hr).1
        rcases Nat.lt_or_ge i listed.size with h' | h'
        · simp [h'] at h0 ⊢; exact h0
        · simp [Array.getElem?_eq_none h'] at h0
      have hnot : ∀ e ∈ oj.after, Region.binds md e = true → e.on ≠ i := fun e he hb heq => by
        have h1 := hall e he hb
        rw [heq, hiun] at h1
        cases h1
      have hjc : j ∉ c := chain_no c i j hc hiun hu hj
      have h2 := wpOp_putIf hoj (hfree j oj hoj hji hjun hnot) (fun cs b => hsel i oi cs b hi) (fun cs b => hsel j oj cs b hoj) hQ hy h1
      have hfree' : ∀ k ok, ops[k]? = some ok → k ≠ i → (listed.setIfInBounds j true).getD k true = false →
          (∀ e ∈ ok.after, Region.binds md e = true → e.on ≠ i) → oi.apart ops ok = true := fun k ok hk hki hun hno => by
        refine hfree k ok hk hki ?_ hno
        by_cases hjk : j = k
        · subst hjk; exact hjun
        · rw [getD_set_ne true hjk] at hun; exact hun
      have hu' : ∀ x ∈ c, (listed.setIfInBounds j true).getD x false = false := fun x hx => by
        have hjx : j ≠ x := fun e => by subst e; exact hjc hx
        rw [getD_other hjx]; exact hu x hx
      have hkk : ((listed.setIfInBounds i true).setIfInBounds j true).getD k false = false := by
        have h5 : j ≠ k := fun e => by subst e; exact hjc hk
        have h6 : i ≠ k := fun e => by subst e; exact hic hk
        rw [getD_other h5, getD_other h6]; exact hu k hk
      refine wpOp_mono (fun a' w' h3 => ⟨fun _ => h3.2.1 hkk, ih (listed.setIfInBounds j true) a' w' hfree' (ready_mono hr (Ne.symm hji)) hu' h3.1 (h3.2.1 hkk) ?_⟩) h2
      rw [Array.setIfInBounds_comm _ _ hji]
      exact h3.2.2
theorem wpAnyK_take {i : Nat} {oi : Oper} {v : Value} {fuel : Nat} {listed : Array Bool} {a : Act} {w : World} (c : List Nat) (hi : ops[i]? = some oi)
    (hs : Region.noSelect ops = true) (hf : Region.free md ops listed i = true) (hr : (Region.ready md ops listed).contains i = true)
    (hc : (chainB md ops i c && c.contains k && !c.contains i && c.all fun x => !listed.getD x false) = true)
    (hQ : ∀ c a w, Q (.panic c) (a.put oi.dst v) w → Q (.panic c) a w) (hy : YieldsIf P ops C oi v a) (hS : C w)
    (h : wpAnyK P md ops Q C k fuel (listed.setIfInBounds i true) (a.put oi.dst v) w) : wpAnyK P md ops Q C k (fuel + 1) listed a w := by
  simp only [Bool.and_eq_true, List.all_eq_true, Bool.not_eq_true', List.contains_eq_mem, decide_eq_true_eq, decide_eq_false_iff_not] at hc
  exact wpAnyK_first hi (Region.noSelect_spec hs) hQ hc.1.1.1 hc.1.1.2 hc.1.2 fuel listed a w (Region.free_spec hi hf) (by simpa using hr) (fun x hx => hc.2 x hx) hy hS h
/-- one that yields its value in every world may be taken first -/
theorem wpAnyK_any {i : Nat} {oi : Oper} {v : Value} (hi : ops[i]? = some oi) (hsel : ∀ (j : Nat) (o : Oper) cs b, ops[j]? = some o → o.op ≠ .select cs b)
    (hQ : ∀ c a w, Q (.panic c) (a.put oi.dst v) w → Q (.panic c) a w) (hik : i ≠ k) :
    ∀ (fuel : Nat) (listed : Array Bool) (a : Act) (w : World),
      (∀ j oj, ops[j]? = some oj → j ≠ i → listed.getD j true = false → (∀ e ∈ oj.after, Region.binds md e = true → e.on ≠ i) → oi.apart ops oj = true) →
      i ∈ Region.ready md ops listed → YieldsIf P ops (fun _ => True) oi v a → (listed.getD k false = false → C w) →
      wpAnyK P md ops Q C k fuel (listed.setIfInBounds i true) (a.put oi.dst v) w → wpAnyK P md ops Q C k (fuel + 1) listed a w := by
  intro fuel
  induction fuel with
  | zero =>
    intro listed a w _ hr hy hS H
    refine ⟨fun h => (by rw [h] at hr; cases hr), fun j hj => ?_⟩
    by_cases hji : j = i
    · subst hji; exact hy.wpOp hi trivial ⟨fun h => hS (by rw [getD_other hik] at h; exact h), H⟩
    · have := ready_mono hj hji
      rw [H.1] at this
      cases this
  | succ fuel ih =>
    intro listed a w hfree hr hy hS H
    refine ⟨fun h => (by rw [h] at hr; cases hr), fun j hj => ?_⟩
    by_cases hji : j = i
    · subst hji; exact hy.wpOp hi trivial ⟨fun h => hS (by rw [getD_other hik] at h; exact h), H⟩
    · have h1 := H.2 j (ready_mono hj hji)
      obtain ⟨hjun, oj, hoj, hall⟩ := mem_ready.1 hj
      have hiun : listed.getD i false = false := by
        have h0 := (mem_ready.1 hr).1
        rcases Nat.lt_or_ge i listed.size with h' | h'
        · simp [h'] at h0 ⊢; exact h0
        · simp [Array.getElem?_eq_none h'] at h0
      have hnot : ∀ e ∈ oj.after, Region.binds md e = true → e.on ≠ i := fun e he hb heq => by
        have h1 := hall e he hb
        rw [heq, hiun] at h1
        cases h1
      have h2 := wpOp_putIf hoj (hfree j oj hoj hji hjun hnot) (fun cs b => hsel i oi cs b hi) (fun cs b => hsel j oj cs b hoj) hQ hy h1
      have hfree' : ∀ k ok, ops[k]? = some ok → k ≠ i → (listed.setIfInBounds j true).getD k true = false →
          (∀ e ∈ ok.after, Region.binds md e = true → e.on ≠ i) → oi.apart ops ok = true := fun k ok hk hki hun hno => by
        refine hfree k ok hk hki ?_ hno
        by_cases hjk : j = k
        · subst hjk; exact hjun
        · rw [getD_set_ne true hjk] at hun; exact hun
      have hkk : ((listed.setIfInBounds i true).setIfInBounds j true).getD k false = (listed.setIfInBounds j true).getD k false := by
        rw [Array.setIfInBounds_comm _ _ (Ne.symm hji), getD_other hik]
      refine wpOp_mono (fun a' w' h3 => ⟨fun h => h3.2.1 (hkk.trans h), ih (listed.setIfInBounds j true) a' w' hfree' (ready_mono hr (Ne.symm hji)) h3.1 (fun h => h3.2.1 (hkk.trans h)) ?_⟩) h2
      rw [Array.setIfInBounds_comm _ _ hji]
      exact h3.2.2
theorem wpAnyK_skip {i : Nat} {oi : Oper} {v : Value} {fuel : Nat} {listed : Array Bool} {a : Act} {w : World} (hi : ops[i]? = some oi)
    (hs : Region.noSelect ops = true) (hf : Region.free md ops listed i = true) (hr : (Region.ready md ops listed).contains i = true) (hik : i ≠ k)
    (hQ : ∀ c a w, Q (.panic c) (a.put oi.dst v) w → Q (.panic c) a w) (hy : YieldsIf P ops (fun _ => True) oi v a) (hS : listed.getD k false = false → C w)
    (h : wpAnyK P md ops Q C k fuel (listed.setIfInBounds i true) (a.put oi.dst v) w) : wpAnyK P md ops Q C k (fuel + 1) listed a w :=
  wpAnyK_any hi (Region.noSelect_spec hs) hQ hik fuel listed a w (Region.free_spec hi hf) (by simpa using hr) hy hS h
/-- the same, behind number k -/
theorem wpAnyK_late {i : Nat} {oi : Oper} {v : Value} {fuel : Nat} {listed : Array Bool} {a : Act} {w : World} (hi : ops[i]? = some oi)
    (hs : Region.noSelect ops = true) (hf : Region.free md ops listed i = true) (hr : (Region.ready md ops listed).contains i = true) (hik : i ≠ k)
    (hQ : ∀ c a w, Q (.panic c) (a.put oi.dst v) w → Q (.panic c) a w) (hy : YieldsIf P ops (fun _ => True) oi v a) (hS : listed.getD k false = true)
    (h : wpAnyK P md ops Q C k fuel (listed.setIfInBounds i true) (a.put oi.dst v) w) : wpAnyK P md ops Q C k (fuel + 1) listed a w :=
  wpAnyK_skip hi hs hf hr hik hQ hy (fun h0 => by rw [hS] at h0; cases h0) h
/-- each of these comes up next -/
def AllReadyK (P : Program) (md : Region.Mode) (ops : Array Oper) (Q : Exit → Act → World → Prop) (C : World → Prop) (k : Nat) (fuel : Nat) (listed : Array Bool) (a : Act) (w : World) (rs : List Nat) : Prop :=
  ∀ i ∈ rs, wpOp P ops Q i (fun a' w' => ((listed.setIfInBounds i true).getD k false = false → C w') ∧ wpAnyK P md ops Q C k fuel (listed.setIfInBounds i true) a' w') a w
theorem AllReadyK.nil {fuel : Nat} {listed : Array Bool} {a : Act} {w : World} : AllReadyK P md ops Q C k fuel listed a w [] := fun _ h => by cases h
/-- one that comes up ahead of number k -/
theorem AllReadyK.cons {fuel : Nat} {listed : Array Bool} {a : Act} {w : World} {i : Nat} {o : Oper} {rs : List Nat} (ho : ops[i]? = some o)
    (h : ∀ K' : Act → World → Prop, Shut (∀ a w, C w → wpAnyK P md ops Q C k fuel (listed.setIfInBounds i true) a w → K' a w) → if Region.wanted o (yielded ops a.tmps) = true then Oper.wp P o a w K' Q else K' (a.put o.dst undef) w)
    (hs : AllReadyK P md ops Q C k fuel listed a w rs) : AllReadyK P md ops Q C k fuel listed a w (i :: rs) := fun j hj => by
  rcases List.mem_cons.1 hj with rfl | hj
  · exact wpOp_step ho (fun K' hK => h K' (fun a w hS hW => hK a w ⟨fun _ => hS, hW⟩))
  · exact hs j hj
/-- number k itself, or one that comes up behind it -/
theorem AllReadyK.last {fuel : Nat} {listed : Array Bool} {a : Act} {w : World} {i : Nat} {o : Oper} {rs : List Nat} (ho : ops[i]? = some o) (hk : (listed.setIfInBounds i true).getD k false = true)
    (h : ∀ K' : Act → World → Prop, Shut (∀ a w, wpAnyK P md ops Q C k fuel (listed.setIfInBounds i true) a w → K' a w) → if Region.wanted o (yielded ops a.tmps) = true then Oper.wp P o a w K' Q else K' (a.put o.dst undef) w)
    (hs : AllReadyK P md ops Q C k fuel listed a w rs) : AllReadyK P md ops Q C k fuel listed a w (i :: rs) := fun j hj => by
  rcases List.mem_cons.1 hj with rfl | hj
  · exact wpOp_step ho (fun K' hK => h K' (fun a w hW => hK a w ⟨fun h0 => (by rw [hk] at h0; cases h0), hW⟩))
  · exact hs j hj
theorem wpAnyK_ready {rs : List Nat} {fuel : Nat} {listed : Array Bool} {a : Act} {w : World} (hr : Region.ready md ops listed = rs) (hne : rs ≠ [])
    (h : AllReadyK P md ops Q C k fuel listed a w rs) : wpAnyK P md ops Q C k (fuel + 1) listed a w :=
  ⟨fun h0 => absurd (hr ▸ h0) hne, by rw [hr]; exact h⟩
theorem wpAnyK_done {listed : Array Bool} {a : Act} {w : World} (hr : Region.ready md ops listed = []) (h : Q .normal a w) : ∀ fuel, wpAnyK P md ops Q C k fuel listed a w
  | 0 => ⟨hr, h⟩
  | _ + 1 => ⟨fun _ => h, by rw [hr]; simp⟩
theorem wp_region_K {id : Nat} {a : Act} {w : World} (C : World → Prop) (k : Nat) (hm : P.follows .mixedOrders = true) (hS : C w.drew)
    (h : C w.drew → wpAnyK P .any ops Q C k ops.size (Array.replicate ops.size false) a w.drew) : (Code.region id ops true).wp P Q a w :=
  wp_region_any hm (wpAny_of_K _ _ _ _ (h hS))
end
end Go.Proofs.YtcjflglpkpkflaaDoor
