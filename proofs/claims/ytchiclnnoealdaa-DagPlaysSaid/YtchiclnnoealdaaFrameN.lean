/- The frame of a law's proof: an argument []Node (an ID and a row of IDs each) opened, and an ID. -/
import Derived.Test.YtchiclnnoealdaaFrameI
import Derived.Test.YtchiclnnoealdaaRNode
import Derived.Test.YtchiclnnoealdaaFramePI
import Derived.Deep.Slices
namespace Go.Proofs.Ytchiclnnoealdaa
open Go.ChangeShapes Go.WideShapes Go.ChangeAt Go.RowKit Go.Deep
set_option linter.unusedVariables false

theorem u8_wf {a : Int} (h : (Lit.int .u8 a).wf = true) : 0 ≤ a ∧ a < 256 := by
  simp [Lit.wf] at h
  have e1 : IntKind.u8.min = 0 := rfl
  have e2 : IntKind.u8.max = 255 := rfl
  rw [e1, e2] at h
  omega
set_option maxRecDepth 100000 in
theorem trod_id {H : Type} {enc : TypeId × Value → H} {W : World} {base : Nat} {sp : Nat → Bool} {held : Bool} {fuel : Nat} {cs : List Value} {x : DataW H × List MemPlace} (h : DataW.trod enc Try.prog W base sp held fuel 24 cs = some x) : ∃ y : ID, cs = bv y.1 := by
  obtain ⟨xs, k, _, _, hcl, hxl, he⟩ := DataW.trod_array Try.underlying24 h
  have c32 : Try.prog.cellsOf 24 = 32 := by kernel_rfl
  have c1 : Try.prog.cellsOf 5 = 1 := by kernel_rfl
  rw [c32] at hcl
  rw [c1] at he
  have hp : ∀ i, i < 32 → ∃ b : UInt8, cs[i]? = some (u8v b) := by
    intro i hi
    have e := he i hi
    rw [List.getElem?_eq_getElem (by omega)] at e
    have hd : (cs.drop (i * 1)).take 1 = [cs[i]'(by omega)] := by
      rw [Nat.mul_one, List.drop_eq_getElem_cons (by omega)]; rfl
    rw [hd] at e
    obtain ⟨a, ea, _, hw⟩ := DataW.trod_int Try.underlying5 e
    simp only [List.cons.injEq, and_true] at ea
    have hb := u8_wf hw
    refine ⟨UInt8.ofNat a.toNat, ?_⟩
    rw [List.getElem?_eq_getElem (by omega), ea]
    unfold u8v
    rw [UInt8.toNat_ofNat', Nat.mod_eq_of_lt (by omega)]
    congr 2
    omega
  obtain ⟨bs, hl, hq⟩ := list_of_all 32 hp
  refine ⟨⟨bs, hl⟩, ?_⟩
  apply List.ext_getElem?
  intro i
  by_cases hi : i < 32
  · rw [hq i (by omega), bv_get _ _ (by show i < bs.length; omega)]; rfl
  · rw [List.getElem?_eq_none (by omega), List.getElem?_eq_none (by rw [bv_length]; show bs.length ≤ i; omega)]
set_option maxRecDepth 100000 in
/-- a slice of IDs, by its cell -/
theorem trod_ids {H : Type} {enc : TypeId × Value → H} {W : World} {fuel : Nat} {cs : List Value} {x : DataW H × List MemPlace} (h : DataW.trod enc Try.prog W 0 (fun _ => true) true fuel 29 cs = some x) :
    ∃ (B : Option Addr) (ps : List ID) (c : Nat), cs = [.slice B ps.length c] ∧ Sl W B (idc ps) := by
  have c32 : Try.prog.cellsOf 24 = 32 := by kernel_rfl
  rcases open_slice Try.underlying29 h with ⟨hcs, _⟩ | ⟨a, l, c, m, n, D, Pl, hcs, _, hl, hm, hmm, hx, hall⟩
  · exact ⟨none, [], 0, hcs, Sl.nil _ _⟩
  · simp only [if_true] at hmm
    subst hmm
    rw [c32] at hall
    have hp : ∀ i, i < l → ∃ y : ID, ∀ j (v : Value), (bv y.1)[j]? = some v → W.cell? ((a.add (i * 32)).add j) = some v := by
      intro i hi
      obtain ⟨cs', hc, ht⟩ := hall i (by omega)
      obtain ⟨_, hcl, hat⟩ := World.cells?_some hc
      obtain ⟨y, rfl⟩ := trod_id ht
      refine ⟨y, fun j v hv => ?_⟩
      have hj : j < 32 := by have := (List.getElem?_eq_some_iff.1 hv).1; rw [bv_length, y.2] at this; exact this
      exact (hat j hj).trans hv
    obtain ⟨ps, hpl, hq⟩ := list_of_all l hp
    refine ⟨some a, ps, _, by rw [hpl]; exact hcs, fun hne => ?_⟩
    obtain ⟨g, off, spot⟩ := a
    have hpos : 0 < ps.length := by
      rcases Nat.eq_zero_or_pos ps.length with h0 | h0
      · have : ps = [] := List.eq_nil_of_length_eq_zero h0
        subst this; simp [idc] at hne
      · exact h0
    have h00 := hq 0 hpos 0 _ (List.getElem?_eq_getElem (by rw [bv_length, (ps[0]).2]; decide))
    have hspot : spot = none := by simpa [Addr.add] using World.cell?_spot h00
    subst hspot
    have hadd : ∀ (o j : Nat), (⟨g, o, none⟩ : Addr).add j = ⟨g, o + j, none⟩ := by intro o j; unfold Addr.add; split <;> simp_all
    refine ⟨g, off, rfl, World.block_lt_of_cell? _ _ (by rw [hadd, hadd] at h00; exact h00), fun j u hu => ?_⟩
    have hjl : j < ps.length * 32 := by have := (List.getElem?_eq_some_iff.1 hu).1; rw [idc_length] at this; exact this
    have hi : j / 32 < ps.length := by omega
    have hk : j % 32 < (bv (ps[j / 32]).1).length := by rw [bv_length, (ps[j / 32]).2]; omega
    have h1 := hq (j / 32) hi (j % 32) _ (List.getElem?_eq_getElem hk)
    have h2 := idc_get ps (j / 32) (j % 32) hi _ (List.getElem?_eq_getElem hk)
    rw [show j / 32 * 32 + j % 32 = j by omega] at h2
    rw [h2] at hu
    injection hu with hu
    rw [← hu]
    rw [hadd, hadd, show off + j / 32 * 32 + j % 32 = off + j by omega] at h1
    exact h1
set_option maxRecDepth 100000 in
theorem open_id {H : Type} {enc : TypeId × Value → H} {W : World} {base : Nat} {v : Value} {d : DataW H} {p : List MemPlace}
    (hv : Value.okWide Try.prog W .any base 24 v) (h : DataW.Trod enc Try.prog W 0 (fun _ => true) true 24 v d p) : ∃ y : ID, v = encI y := by
  obtain ⟨cs, rfl⟩ : ∃ cs : Array Value, v = .agg cs := by
    simp only [Value.okWide, Try.underlying24] at hv
    obtain ⟨cs, h1, _⟩ := hv
    exact ⟨cs, h1⟩
  obtain ⟨fuel, hf⟩ := h
  obtain ⟨y, hy⟩ := trod_id hf
  refine ⟨y, ?_⟩
  simp only [encI, idA_eq]
  have : cs.toList = bv y.1 := by simpa [Value.cells] using hy
  rw [← this]
set_option maxRecDepth 100000 in
theorem open_nodes {H : Type} {enc : TypeId × Value → H} {W : World} {base : Nat} {v : Value} {d : DataW H} {p : List MemPlace}
    (hv : Value.okWide Try.prog W .any base 22 v) (h : DataW.Trod enc Try.prog W 0 (fun _ => true) true 22 v d p) :
    ∃ A n c nv nodes, v = .slice A n c ∧ List.length nodes = n ∧ Sl W A (lnR nv) ∧ NdV W nv nodes := by
  obtain ⟨a0, len, cap, rfl⟩ := okWide_slice Try.underlying22 hv
  obtain ⟨fuel, hf⟩ := h
  have c33 : Try.prog.cellsOf 31 = 33 := by kernel_rfl
  have c32 : Try.prog.cellsOf 24 = 32 := by kernel_rfl
  have c1 : Try.prog.cellsOf 29 = 1 := by kernel_rfl
  rcases open_slice Try.underlying22 hf with ⟨hcs, _⟩ | ⟨a, l, c, m, n, D, Pl, hcs, _, hl, hm, hmm, hx, hall⟩
  · simp [Value.cells] at hcs
    obtain ⟨rfl, rfl, rfl⟩ := hcs
    exact ⟨none, 0, 0, [], [], rfl, rfl, Sl.nil _ _, .nil⟩
  · simp [Value.cells] at hcs
    obtain ⟨rfl, rfl, rfl⟩ := hcs
    simp only [if_true] at hmm
    subst hmm
    rw [c33] at hall
    have hp : ∀ i, i < len → ∃ q : (ID × Value) × (ID × List ID), (∀ j (u : Value), (lnC q.1)[j]? = some u → W.cell? ((a.add (i * 33)).add j) = some u) ∧ q.1.1 = q.2.1 ∧ PsV W q.1.2 q.2.2 := by
      intro i hi
      obtain ⟨cs', hc, ht⟩ := hall i (by omega)
      obtain ⟨_, hcl, hat⟩ := World.cells?_some hc
      obtain ⟨y0, y1, k, _, hl33, h0, h1⟩ := trod_struct2 Try.underlying31 ht
      obtain ⟨y, e0⟩ := trod_id h0
      obtain ⟨B, ps, c2, e1, hs⟩ := trod_ids h1
      rw [c33] at hl33
      have e0' : (cs'.drop 0).take 32 = bv y.1 := by
        change (cs'.drop 0).take (Try.prog.cellsOf 24) = _ at e0
        simp only [c32] at e0
        exact e0
      have e1' : (cs'.drop 32).take 1 = [.slice B ps.length c2] := by
        change (cs'.drop 32).take (Try.prog.cellsOf 29) = _ at e1
        simp only [c1] at e1
        exact e1
      have ec : cs' = lnC (y, .slice B ps.length c2) := by
        have h3 : cs'.take 32 ++ cs'.drop 32 = cs' := List.take_append_drop 32 cs'
        rw [List.drop_zero] at e0'
        rw [List.take_of_length_le (by rw [List.length_drop]; omega)] at e1'
        rw [← h3, e0', e1']; rfl
      refine ⟨((y, .slice B ps.length c2), (y, ps)), fun j u hu => ?_, rfl, B, c2, rfl, hs⟩
      have hj : j < 33 := by have := (List.getElem?_eq_some_iff.1 hu).1; rw [lnC_len] at this; exact this
      rw [← ec] at hu
      exact (hat j hj).trans hu
    obtain ⟨qs, hql, hq⟩ := list_of_all len hp
    have hnd : ∀ (l : List ((ID × Value) × (ID × List ID))), (∀ q ∈ l, q.1.1 = q.2.1 ∧ PsV W q.1.2 q.2.2) → NdV W (l.map (·.1)) (l.map (·.2)) := by
      intro l
      induction l with
      | nil => intro _; exact .nil
      | cons q l ih => intro h; exact .cons (h q (by simp)) (ih (fun q hq => h q (by simp [hq])))
    refine ⟨some a, len, _, qs.map (·.1), qs.map (·.2), rfl, by rw [List.length_map]; exact hql, fun hne => ?_, hnd qs (fun q hm => by
      obtain ⟨i, hi, rfl⟩ := List.getElem_of_mem hm
      exact (hq i hi).2)⟩
    obtain ⟨g, off, spot⟩ := a
    have hpos : 0 < qs.length := by
      rcases Nat.eq_zero_or_pos qs.length with h0 | h0
      · have : qs = [] := List.eq_nil_of_length_eq_zero h0
        subst this; simp [lnR] at hne
      · exact h0
    have h00 := (hq 0 hpos).1 0 _ (List.getElem?_eq_getElem (by rw [lnC_len]; decide))
    have hspot : spot = none := by simpa [Addr.add] using World.cell?_spot h00
    subst hspot
    have hadd : ∀ (o j : Nat), (⟨g, o, none⟩ : Addr).add j = ⟨g, o + j, none⟩ := by intro o j; unfold Addr.add; split <;> simp_all
    refine ⟨g, off, rfl, World.block_lt_of_cell? _ _ (by rw [hadd, hadd] at h00; exact h00), fun j u hu => ?_⟩
    have hjl : j < qs.length * 33 := by have := (List.getElem?_eq_some_iff.1 hu).1; rw [lnR_len, List.length_map] at this; exact this
    have hi : j / 33 < qs.length := by omega
    have hi' : j / 33 < (qs.map (·.1)).length := by rw [List.length_map]; exact hi
    have hk : j % 33 < (lnC (qs[j / 33]).1).length := by rw [lnC_len]; omega
    have h1 := (hq (j / 33) hi).1 (j % 33) _ (List.getElem?_eq_getElem hk)
    have h2 := lnR_get (qs.map (·.1)) (j / 33) (j % 33) hi' _ (by rw [List.getElem_map]; exact List.getElem?_eq_getElem hk)
    rw [show j / 33 * 33 + j % 33 = j by omega] at h2
    rw [h2] at hu
    injection hu with hu
    rw [← hu]
    rw [hadd, hadd, show off + j / 33 * 33 + j % 33 = off + j by omega] at h1
    exact h1
end Go.Proofs.Ytchiclnnoealdaa
