/-
  What is packed is read as it was (no program).
-/
import Derived.Test.YtanafeeekofejaaEntF
import Derived.Test.YtanafeeekofejaaLittleQ
namespace Go.Proofs.Ytanafeeekofejaa
open Go.RowKit
set_option linter.unusedVariables false
set_option linter.unusedSimpArgs false

theorem packAux_spec (room : Int) : ∀ (es : List Ent) (acc : List UInt8) (i : Nat), ∃ k, k ≤ es.length ∧ packAux room es acc i = (acc ++ (es.take k).flatMap entB, i + k) := by
  intro es
  induction es with
  | nil => intro acc i; exact ⟨0, Nat.le_refl _, by simp [packAux]⟩
  | cons e es ih =>
    intro acc i
    unfold packAux
    split
    · exact ⟨0, by simp, by simp⟩
    · obtain ⟨k, hk, h⟩ := ih (acc ++ entB e) (i + 1)
      exact ⟨k + 1, by simpa using hk, by rw [h]; simp [List.append_assoc]; omega⟩
theorem packAux_room (room : Int) : ∀ (es : List Ent) (acc : List UInt8) (i : Nat), (acc.length : Int) ≤ max room 0 → (((packAux room es acc i).1.length : Nat) : Int) ≤ max room 0 := by
  intro es
  induction es with
  | nil => intro acc i h; exact h
  | cons e es ih =>
    intro acc i h
    unfold packAux
    split
    · exact h
    · rename_i hn
      refine ih _ _ ?_
      rw [List.length_append]
      omega
theorem ent1_app (e : Ent) (r : List UInt8) (h : EntOk e) : en1S (entB e ++ r) = e.1 ∧ en1I (entB e ++ r) = e.2.1 ∧ en1G (entB e ++ r) = e.2.2 ∧ en1L (entB e ++ r) = r ∧ en1E (entB e ++ r) = 0 := by
  obtain ⟨h1, h2, h3, h4⟩ := h
  have e0 : entB e ++ r = le 2 e.1.length ++ (e.1 ++ (le 4 e.2.1 ++ (le 4 e.2.2 ++ r))) := by simp [entB, entL, List.append_assoc]
  obtain ⟨t1, t2, t3⟩ := tx_app e.1 (le 4 e.2.1 ++ (le 4 e.2.2 ++ r)) (by omega)
  have l4 : ∀ x, (le 4 x).length = 4 := fun x => le_length 4 x
  unfold en1S en1I en1G en1L en1E
  rw [e0, t1, t2, t3, nxB_app _ _ 4 (l4 _), nxL_app _ _ 4 (l4 _), nxE_app _ _ 4 (l4 _), nxB_app _ _ 4 (l4 _), nxL_app _ _ 4 (l4 _), nxE_app _ _ 4 (l4 _), num_le_small 4 _ (by omega), num_le_small 4 _ (by omega)]
  exact ⟨rfl, rfl, rfl, rfl, rfl⟩
theorem ents_app : ∀ (es : List Ent) (f : Nat) (acc : List Ent), (∀ e ∈ es, EntOk e) → (es.flatMap entB).length ≤ f → entsAux f (es.flatMap entB) acc = (acc ++ es, 0) := by
  intro es
  induction es with
  | nil => intro f acc _ _; cases f <;> simp [entsAux]
  | cons e es ih =>
    intro f acc hok hf
    have hlen : (entB e).length = 10 + e.1.length := entB_length e
    simp only [List.flatMap_cons, List.length_append] at hf ⊢
    obtain ⟨f', rfl⟩ : ∃ f', f = f' + 1 := ⟨f - 1, by omega⟩
    have hoke := hok e List.mem_cons_self
    obtain ⟨a1, a2, a3, a4, a5⟩ := ent1_app e (es.flatMap entB) hoke
    unfold entsAux
    rw [if_neg (by intro h; have := congrArg List.length h; rw [List.length_append, hlen, List.length_nil] at this; omega), a1, a2, a3, a4, a5, if_neg (by simp), if_neg (by rw [hoke.1]; simp), ih f' _ (fun x hx => hok x (List.mem_cons_of_mem _ hx)) (by omega)]
    simp
theorem flat_len : ∀ es : List Ent, (∀ e ∈ es, EntOk e) → (es.flatMap entB).length ≤ 42 * es.length := by
  intro es
  induction es with
  | nil => intro _; simp
  | cons e es ih =>
    intro hok
    have h1 := ih (fun x hx => hok x (List.mem_cons_of_mem _ hx))
    have h2 := (hok e List.mem_cons_self).2.1
    have h3 : (entB e).length = 10 + e.1.length := entB_length e
    simp only [List.flatMap_cons, List.length_append, List.length_cons]
    omega
/-- What Pack packs is read again. -/
theorem pack_ents (room : Int) (es : List Ent) (hok : ∀ e ∈ es, EntOk e) : ∃ k, k ≤ es.length ∧ (packAux room es [] 0).2 = k ∧ ((packAux room es [] 0).1.length : Int) ≤ max room 0 ∧ (packAux room es [] 0).1.length ≤ 42 * es.length ∧
    entsAux (packAux room es [] 0).1.length (packAux room es [] 0).1 [] = (es.take k, 0) := by
  obtain ⟨k, hk, h⟩ := packAux_spec room es [] 0
  refine ⟨k, hk, by rw [h]; simp, packAux_room room es [] 0 (by simp; omega), ?_, ?_⟩
  · rw [h]
    have := flat_len (es.take k) (fun e he => hok e (List.mem_of_mem_take he))
    rw [List.length_take] at this
    simp only [List.nil_append]
    omega
  rw [h]
  simp only [List.nil_append]
  rw [ents_app _ _ _ (fun e he => hok e (List.mem_of_mem_take he)) (Nat.le_refl _)]
  simp
theorem RdR.first {w : World} {B k n : Nat} {A : Option Addr} {rs : List (List Value)} (h : RdR w B k A n rs) {m : Nat} (hm : m ≤ n) : RdR w B k A m (rs.take m) := by
  refine ⟨fun r hr => h.1 r (List.mem_of_mem_take hr), by rw [List.length_take, h.2.1]; omega, fun h0 => ?_⟩
  obtain ⟨b, off, hA, hlt, hc⟩ := h.2.2 (by omega)
  refine ⟨b, off, hA, hlt, fun i j r v hr hv => hc i j r v ?_ hv⟩
  rw [List.getElem?_take] at hr
  split at hr
  · exact hr
  · cases hr
end Go.Proofs.Ytanafeeekofejaa
