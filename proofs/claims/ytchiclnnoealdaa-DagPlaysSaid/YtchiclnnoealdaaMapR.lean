/- Ranging over a map that is known as a list of entries: the order is whatever the tape says. -/
import Derived.Test.YtchiclnnoealdaaMapL
namespace Go.Proofs.Ytchiclnnoealdaa
open Go.RowKit Go.Maps
set_option linter.unusedVariables false
set_option linter.unusedSimpArgs false

/-- block 'it' ranges over the map in block r, which holds kv; 'left' is to come -/
def RngL {κ : Type} (enc : κ → Value) (w : World) (it r : Nat) (kv left : List (κ × Value)) : Prop :=
  ∃ es clock seen, w.heap[it]? = some (.mapIter (some r) clock seen clock) ∧ w.heap[r]? = some (.map es clock) ∧ EntL enc es clock kv ∧ (leftOf es seen).toList.map (fun e => (e.key, e.val)) = left.map (fun p => (enc p.1, p.2))

section
variable {κ : Type} {enc : κ → Value} {P : Program} {kt t E : TypeId} {w w' : World} {it r : Nat} {kv left : List (κ × Value)}

theorem MapL.range (h : MapL enc w r kv) (ht : P.underlying t = some (.map kt E)) :
    ∃ o, (Instr.range t (.map (some r))).run P w = .ok (.pointer (some ⟨w.heap.size, 0, none⟩)) (w.alloc o) ∧ RngL enc (w.alloc o) w.heap.size r kv kv := by
  have hl := h.lt
  obtain ⟨es, clock, hb, he⟩ := h
  refine ⟨_, run_range_map w t kt E r es clock ht hb, es, clock, #[], heap_alloc_new w _, by rw [heap_alloc_old w _ hl]; exact hb, he, ?_⟩
  have : leftOf es #[] = es := by unfold leftOf; simp
  rw [this]; exact he.is
theorem RngL.map (h : RngL enc w it r kv left) : MapL enc w r kv := by
  obtain ⟨es, clock, seen, _, hb, he, _⟩ := h
  exact ⟨es, clock, hb, he⟩
theorem RngL.fr {M : Nat → Prop} (h : RngL enc w it r kv left) (hf : Fr M w w') (h1 : ¬ M it) (h2 : ¬ M r) : RngL enc w' it r kv left := by
  obtain ⟨es, clock, seen, hi, hb, rest⟩ := h
  exact ⟨es, clock, seen, by rw [hf.block it (Array.getElem?_eq_some_iff.1 hi).1 h1]; exact hi, by rw [hf.block r (Array.getElem?_eq_some_iff.1 hb).1 h2]; exact hb, rest⟩

theorem left_push {es : Array MapEntry} {seen : Array Nat} (hn : (es.toList.map (·.born)).Nodup) {e : MapEntry} {a b : List MapEntry} (h : (leftOf es seen).toList = a ++ e :: b) : (leftOf es (seen.push e.born)).toList = a ++ b := by
  have hsub : (leftOf es seen).toList = es.toList.filter (fun e => !seen.contains e.born) := by unfold leftOf; simp
  have hsub2 : (leftOf es (seen.push e.born)).toList = (es.toList.filter (fun e => !seen.contains e.born)).filter (fun x => !(x.born == e.born)) := by
    unfold leftOf
    rw [List.filter_filter, Array.toList_filter]
    refine List.filter_congr (fun x _ => ?_)
    rw [contains_push]
    cases seen.contains x.born <;> cases (x.born == e.born) <;> rfl
  rw [hsub2, ← hsub, h]
  have hnd : ((a ++ e :: b).map (·.born)).Nodup := by
    rw [← h, hsub]
    exact List.Nodup.sublist (List.Sublist.map _ List.filter_sublist) hn
  rw [List.map_append, List.map_cons, List.nodup_append] at hnd
  obtain ⟨_, h2, h3⟩ := hnd
  rw [List.nodup_cons] at h2
  rw [List.filter_append, List.filter_cons]
  simp only [beq_self_eq_true, Bool.not_true, Bool.false_eq_true, if_false]
  rw [List.filter_eq_self.2, List.filter_eq_self.2]
  · intro x hx
    have : x.born ≠ e.born := fun e' => h2.1 (by rw [← e']; exact List.mem_map.2 ⟨x, hx, rfl⟩)
    simpa using this
  · intro x hx
    have : x.born ≠ e.born := h3 x.born (List.mem_map.2 ⟨x, hx, rfl⟩) e.born (by simp)
    simpa using this

theorem RngL.next (H : KeyE P kt enc) (h : RngL enc w it r kv left) (hne : it ≠ r) (ty : TypeId) :
    (left = [] ∧ (Instr.next (.pointer (some ⟨it, 0, none⟩)) false ty).run P w = .ok (.tuple #[.bool false]) w) ∨
    ∃ l1 p l2 w', left = l1 ++ p :: l2 ∧ p ∈ kv ∧ (Instr.next (.pointer (some ⟨it, 0, none⟩)) false ty).run P w = .ok (.tuple #[.bool true, enc p.1, p.2]) w' ∧ RngL enc w' it r kv (l1 ++ l2) ∧ Fr (oneB it) w w' ∧
      ∀ (M : Nat → Prop) w'', Fr M w' w'' → ¬ M it → ¬ M r → (Instr.entry (.pointer (some ⟨it, 0, none⟩))).run P w'' = .ok (.tuple #[enc p.1, p.2]) w'' := by
  obtain ⟨es, clock, seen, hi, hb, he, hl⟩ := h
  have hlt := (Array.getElem?_eq_some_iff.1 hi).1
  rcases run_next_at (P := P) w ty it r clock clock seen es clock hi hb he.bl (Nat.le_refl _) with ⟨h0, hrun⟩ | ⟨e, hel, w1, hw1, hrun⟩
  · refine .inl ⟨?_, hrun⟩
    have : (leftOf es seen).toList = [] := List.eq_nil_of_length_eq_zero (by simpa using h0)
    rw [this] at hl
    simpa using hl.symm
  · obtain ⟨a, b, hab⟩ := List.append_of_mem hel
    rw [hab, List.map_append, List.map_cons] at hl
    obtain ⟨l1, q, hq1, hq2, hq3⟩ := List.map_eq_append_iff.1 hl.symm
    obtain ⟨p, l2, rfl, hp, hq4⟩ := List.map_eq_cons_iff.1 hq3
    simp only [Prod.mk.injEq] at hp
    have he1 : e ∈ es.toList := (mem_left hel).1
    obtain ⟨k, hk, hkm⟩ := he.mem H he1
    have hpk : p.1 = k := H.inj _ _ (hp.1.trans hk)
    have hpe : p = (k, e.val) := by rw [← hpk, ← hp.2]
    have hl1 : it < w1.heap.size := by rcases hw1 with rfl | rfl <;> exact hlt
    have f1 : Fr (oneB it) w w1 := by rcases hw1 with rfl | rfl; exact Fr.refl _ _; exact (Fr.refl _ _).drew
    obtain ⟨g1, g2, g3⟩ := frameMap hl1 (.mapIter (some r) clock (seen.push e.born) clock)
    have hb' : (ChangeMaps.setBlock w1 it (.mapIter (some r) clock (seen.push e.born) clock)).heap[r]? = some (.map es clock) := by
      rw [(f1.trans g1 (fun _ _ h => h)).block r (Array.getElem?_eq_some_iff.1 hb).1 (fun h => hne h.symm)]; exact hb
    refine .inr ⟨l1, p, l2, _, hq1, by rw [hpe]; exact hkm, ?_, ⟨es, clock, seen.push e.born, g3, hb', he, ?_⟩, f1.trans g1 (fun _ _ h => h), ?_⟩
    · rw [hrun, hp.1, hp.2]
    · rw [left_push he.bn hab, List.map_append, List.map_append, ← hq2, ← hq4]
    · intro M w'' hf h1 h2
      rw [hp.1, hp.2]
      exact run_entry_at w'' it r clock seen es clock e (by rw [hf.block it (Array.getElem?_eq_some_iff.1 g3).1 h1]; exact g3) (by rw [hf.block r (Array.getElem?_eq_some_iff.1 hb').1 h2]; exact hb') he1 he.bn
end
end Go.Proofs.Ytchiclnnoealdaa
