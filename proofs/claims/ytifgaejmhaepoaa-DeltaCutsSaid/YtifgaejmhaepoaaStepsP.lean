/- Plain: the steps that DeltaSteps puts together. -/
import Derived.Test.YtifgaejmhaepoaaDeltaQ
namespace Go.Proofs.Ytifgaejmhaepoaa

def andM (a : Int) : Nat := (bits .and .i64 a 1048575).toNat
theorem andM_eq (a : Int) : bits .and .i64 a 1048575 = (andM a : Int) ∧ andM a ≤ 1048575 := by
  have h : ∃ x : Nat, bits .and .i64 a 1048575 = (x : Int) ∧ x ≤ 1048575 := by
    refine ⟨(BitVec.ofInt 64 a &&& BitVec.ofInt 64 1048575).toNat, ?_, ?_⟩
    · show IntKind.i64.wrap ((BitVec.ofInt 64 a &&& BitVec.ofInt 64 1048575).toNat : Int) = _
      have hle : (BitVec.ofInt 64 a &&& BitVec.ofInt 64 1048575).toNat ≤ 1048575 := by
        rw [BitVec.toNat_and]
        exact Nat.le_trans Nat.and_le_right (by decide)
      rw [IntKind.wrap_i64]; omega
    · rw [BitVec.toNat_and]
      exact Nat.le_trans Nat.and_le_right (by decide)
  obtain ⟨x, hx, hle⟩ := h
  unfold andM
  rw [hx]
  exact ⟨by simp, by simpa using hle⟩

def pFrom (L : Nat) (p : Int × Int) : Nat := andM p.1 % L
def pLen (L : Nat) (p : Int × Int) : Nat := 1 + andM p.2 % (L - pFrom L p)
theorem pFrom_lt {L : Nat} (h : 0 < L) (p : Int × Int) : pFrom L p < L := Nat.mod_lt _ h
theorem pLen_le {L : Nat} (h : 0 < L) (p : Int × Int) : 1 ≤ pLen L p ∧ pFrom L p + pLen L p ≤ L := by
  have := pFrom_lt h p
  have h2 : andM p.2 % (L - pFrom L p) < L - pFrom L p := Nat.mod_lt _ (by omega)
  unfold pLen
  omega

def stepB (base own : List UInt8) (p : Int × Int) : List UInt8 :=
  (numB (2 * pLen base.length p + 1) ++ numB (pFrom base.length p)) ++ (if own = [] then [] else numB (2 * own.length) ++ own)
def wantB (base own : List UInt8) (p : Int × Int) : List UInt8 := (base.drop (pFrom base.length p)).take (pLen base.length p) ++ own

theorem stepB_len (base own : List UInt8) (p : Int × Int) (hb : 0 < base.length) (hb2 : base.length ≤ 2000) (ho : own.length ≤ 500) : (stepB base own p).length ≤ 527 := by
  have h := pLen_le hb p
  have h1 := numB_length (2 * pLen base.length p + 1) (by omega)
  have h2 := numB_length (pFrom base.length p) (by omega)
  have h3 := numB_length (2 * own.length) (by omega)
  unfold stepB
  split <;> simp <;> omega
theorem wantB_len (base own : List UInt8) (p : Int × Int) (hb : 0 < base.length) : (wantB base own p).length = pLen base.length p + own.length := by
  have h := pLen_le hb p
  unfold wantB
  simp; omega

theorem steps_ap (base own : List UInt8) (hb : 0 < base.length) (hb2 : base.length ≤ 2000) (ho : own.length ≤ 500) : ∀ (ps : List (Int × Int)) (out rest : List UInt8), out.length + ps.length * 2500 ≤ 1048000 →
    apS base (ps.flatMap (stepB base own) ++ rest, false) out = apS base (rest, false) (out ++ ps.flatMap (wantB base own)) ∧ (out ++ ps.flatMap (wantB base own)).length ≤ out.length + ps.length * 2500 := by
  intro ps
  induction ps with
  | nil => intro out rest _; simp
  | cons p ps ih =>
    intro out rest hl
    simp only [List.length_cons] at hl
    have h := pLen_le hb p
    have hw := wantB_len base own p hb
    have hstep : apS base ((stepB base own p ++ ps.flatMap (stepB base own)) ++ rest, false) out = apS base (ps.flatMap (stepB base own) ++ rest, false) (out ++ wantB base own p) := by
      unfold stepB
      simp only [List.append_assoc]
      rw [apS_copy _ _ _ _ _ h.1 (by omega) (by omega), if_neg (by omega)]
      by_cases h0 : own = []
      · subst h0; simp [wantB]
      · rw [if_neg h0, List.append_assoc, apS_own base own _ _ (List.length_pos_iff.2 h0) (by simp; omega)]
        simp [wantB]
    have hlen : (out ++ wantB base own p).length = out.length + (wantB base own p).length := by simp
    obtain ⟨h1, h2⟩ := ih (out ++ wantB base own p) rest (by rw [hlen]; omega)
    simp only [List.flatMap_cons]
    rw [hstep, h1]
    constructor
    · rw [List.append_assoc]
    · rw [List.append_assoc] at h2; rw [hlen] at h2; simp only [List.length_cons]; omega
end Go.Proofs.Ytifgaejmhaepoaa
