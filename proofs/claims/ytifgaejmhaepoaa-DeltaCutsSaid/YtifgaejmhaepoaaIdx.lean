/- bytes.Index as a contract in my words. -/
import Derived.Test.YtifgaejmhaepoaaShelf
import Derived.Test.YtifgaejmhaepoaaTwo
import Derived.Lib.IndexMore
namespace Go.Proofs.Ytifgaejmhaepoaa
open Go.RowKit
set_option linter.unusedVariables false
set_option linter.unusedSimpArgs false

def natI (l : List UInt8) : List Int := l.map fun b => (b.toNat : Int)
theorem natI_bytes (l : List UInt8) : Lib.bytesOf (natI l) = l := by
  unfold Lib.bytesOf natI
  rw [List.map_map]
  conv => rhs; rw [← List.map_id l]
  refine List.map_congr_left (fun b _ => ?_)
  simp
theorem natI_rng (l : List UInt8) : ∀ x ∈ natI l, 0 ≤ x ∧ x < 256 := by
  intro x hx
  unfold natI at hx
  obtain ⟨b, _, rfl⟩ := List.mem_map.1 hx
  have := b.toNat_lt
  omega
theorem Sl.natI {w : World} {a : Addr} {l : List UInt8} (h : Sl w (some a) (bv l)) : ∀ i, i < l.length → w.cell? (a.add i) = some (.int .u8 ((natI l).getD i 0)) := by
  intro i hi
  obtain ⟨g, off, e, _, hc⟩ := h (bv_ne (by intro h0; subst h0; simp at hi))
  injection e with e
  subst e
  have e2 : (⟨g, off, none⟩ : Addr).add i = ⟨g, off + i, none⟩ := by unfold Addr.add; split <;> simp_all
  rw [e2]
  refine hc i _ ?_
  rw [bv_get l i hi]
  simp [Go.Proofs.Ytifgaejmhaepoaa.natI, List.getD, hi]

theorem index_any (w : World) (A : Option Addr) (c : Nat) (l : List UInt8) (B : Option Addr) (d : Nat) (t : List UInt8) (m : Int) (hA : Sl w A (bv l)) (hB : Sl w B (bv t)) (ht : t ≠ []) (hc : l.length ≤ c) (hn : A = none → c = 0)
    (hl : l.length < 4294967281) (htl : t.length ≤ 9223372036854775807) (hm : w.cell? ⟨0, 0, none⟩ = some (.int .i64 m)) (n k : Nat) (hn' : l.length = n) (hk' : t.length = k) :
    Calls Try.prog 24 #[.slice A n c, .slice B k d] w fun e w' => e = .returned (.int .i64 (Lib.index l t)) ∧ Fr noB w w' := by
  subst hn' hk'
  obtain ⟨g2, o2, rfl, _, hc2⟩ := hB (bv_ne ht)
  cases A with
  | none =>
    have h0 : c = 0 := hn rfl
    subst h0
    have hl0 : l = [] := List.eq_nil_of_length_eq_zero (by omega)
    subst hl0
    refine (Try.bytes_Index_nil (some ⟨g2, o2, none⟩) t.length d w htl (fun h1 => ⟨g2, o2, _, rfl, hc2 0 _ (bv_get t 0 (by omega))⟩)).mono ?_
    rintro e w' ⟨rfl, rfl⟩
    refine ⟨?_, Fr.refl _ _⟩
    cases t with
    | nil => exact absurd rfl ht
    | cons a t => simp [Lib.index]
  | some a =>
    refine (Try.bytes_Index_at a ⟨g2, o2, none⟩ l.length c t.length d (natI l) (natI t) m w (by simp [natI]) (by simp [natI]) (natI_rng l) (natI_rng t) hA.natI hB.natI hc hl htl hm).mono ?_
    rintro e w' ⟨rfl, q, rfl⟩
    rw [natI_bytes, natI_bytes]
    exact ⟨rfl, (Fr.refl noB w).drewN q⟩

/-- what Index gives: none, or a place at which it stands -/
theorem index_two (l t : List UInt8) (ht : t ≠ []) : Lib.index l t = -1 ∨ ∃ i : Nat, Lib.index l t = i ∧ i + t.length ≤ l.length ∧ (l.drop i).take t.length = t := by
  rcases Lib.index_spec l t with ⟨h, _⟩ | ⟨i, h1, h2, h3, _⟩
  · exact .inl h
  · refine .inr ⟨i, h1, ?_, ?_⟩
    · have := Lib.index_room l t (by omega)
      rw [h1] at this
      omega
    · unfold Lib.occAt at h3
      rw [List.isPrefixOf_iff_prefix] at h3
      exact (List.prefix_iff_eq_take.1 h3).symm
/-- where it stands somewhere Index gives a place -/
theorem index_has (a b c : List UInt8) : 0 ≤ Lib.index (a ++ b ++ c) b := by
  rcases Lib.index_spec (a ++ b ++ c) b with ⟨_, h⟩ | ⟨i, h1, _⟩
  · have := h a.length (by simp)
    unfold Lib.occAt at this
    rw [List.append_assoc, List.drop_left, Bool.eq_false_iff] at this
    exact absurd (List.isPrefixOf_iff_prefix.2 (List.prefix_append _ _)) this
  · omega
end Go.Proofs.Ytifgaejmhaepoaa
