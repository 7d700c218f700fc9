/- Contract: the reference's Path over rows. -/
import Derived.Test.YtefcalkbfaefgaaR14K
import Derived.Test.YtefcalkbfaefgaaDifLK
namespace Go.Proofs.Ytefcalkbfaefgaa
open Go.RowKit
set_option linter.unusedVariables false
set_option linter.unusedSimpArgs false

theorem joinB_end (sep n : List UInt8) : ∀ {l : List (List UInt8)}, l ≠ [] → joinB sep (l ++ [n]) = joinB sep l ++ sep ++ n
  | [], h => absurd rfl h
  | [x], _ => rfl
  | x :: y :: l, _ => by
    have ih := joinB_end sep n (l := y :: l) (by simp)
    show x ++ sep ++ joinB sep (y :: l ++ [n]) = _
    rw [ih]
    show _ = x ++ sep ++ joinB sep (y :: l) ++ sep ++ n
    simp [List.append_assoc]
theorem names_step {xs : List RwP} (k : Nat) {s : St} {r : RwP} (hf : findR xs s = some r) (h0 : s.T ≠ 0) : namesN xs (k + 1) s = r.Name :: namesN xs k r.Parent := by
  show (if s.T = 0 then [] else match findR xs s with | none => [] | some r => r.Name :: namesN xs k r.Parent) = _
  rw [if_neg h0, hf]
theorem names_ne {xs : List RwP} (hT : ∀ r ∈ xs, r.Node.T ≠ 0) {k : Nat} {s p : St} (h : liesN xs k s p = true) : namesN xs k s ≠ [] := by
  cases k with
  | zero => cases h
  | succ k =>
    obtain ⟨r, hf, _⟩ := lies_step h
    obtain ⟨h1, h2⟩ := findR_some hf
    rw [names_step k hf (by rw [← h2]; exact hT r h1)]
    simp
theorem str_app (a b : List UInt8) : str a ++ str b = str (a ++ b) := by
  apply ByteArray.ext
  simp [str, ByteArray.data_append]
theorem slash_app (a b : List UInt8) : (⟨#[47]⟩ : ByteArray) ++ (str a ++ str b) = str (47 :: (a ++ b)) := by
  rw [str_app]
  exact str_app [47] (a ++ b)
def PaaR (w : World) (xs : List RwP) (P : Nat) (Z : List UInt8) (gk : Nat) (ov : Value) (wr : World) : Prop :=
  ∃ (s : St) (out : List UInt8), ov = .string (str out) ∧ codS.bxd wr P = some s ∧ liesN xs gk s zSt = true ∧ Z = joinB [47] (namesN xs gk s).reverse ++ out ∧ Fr noB w wr ∧ out.length + 61 * gk ≤ 100000000
set_option maxRecDepth 100000 in
set_option maxHeartbeats 2000000 in
theorem r14path_any (w : World) (A : Option Addr) (c n : Nat) (rs : List RwW) (xs : List RwP) (hn : rs.length = n) (hs : Sl w A (codR.row rs)) (hb : rs.length ≤ 100000) (hX : RwsIn w rs xs) (tX : TreeOk xs) (s : St) :
    Calls Try.prog 13 #[.slice A n c, .agg (codS.A s)] w (Gives w (.string (str (pathR xs s)))) := by
  subst hn
  have f0 : Fr noB w (w.alloc (.cells (codS.A s) 24)) := (Fr.refl noB w).alloc _
  have b0 := bxS_box w s
  have q0 := Cod.bxd_rd b0
  have HLI := Lib.hid (fun w' (f : Fr noB w w') => r12lies_any w' A c rs.length rs xs rfl (hs.fr0 f) (by omega) (hX.fr f) s zSt)
  obtain ⟨b, hbb⟩ : ∃ b, b = liesR xs s zSt := ⟨_, rfl⟩
  have hZ := pathR_lies tX s
  rw [← hbb] at HLI hZ
  have HXL := Lib.hid hX.len
  have HT := Lib.hid tX.T
  have HNL := Lib.hid (fun r hr => rightR_name (tX.ok r hr))
  cases b with
  | false =>
    have HZ := Lib.hid (hZ.trans (if_neg (by decide)))
    clear hZ hbb tX
    go_enter Try.func13, Try.ntmps13
    go_wp2_with (go_at_call 22; refine (HLI.out _ f0).mono ?_; rintro e w5 ⟨rfl, f5⟩)
    go_ret
    exact ⟨by rw [HZ.out]; rfl, f0.step0 f5⟩
  | true =>
    have HZ := Lib.hid (hZ.trans (if_pos rfl))
    have HB := Lib.hid (show liesN xs xs.length s zSt = true from hbb.symm)
    generalize pathR xs s = Z at HZ ⊢
    clear hZ hbb tX
    go_enter Try.func13, Try.ntmps13
    go_upto_region 3 with (go_at_call 22; refine (HLI.out _ f0).mono ?_; rintro e w5 ⟨rfl, f5⟩)
    have b5 := Cod.bxd_fr0 b0 f5
    have F5 := f0.step0 f5
    obtain ⟨P, hP⟩ : ∃ t, t = w.heap.size := ⟨_, rfl⟩
    rw [← hP] at b5 ⊢
    have HP := Lib.hid hP
    clear hP b0 q0 f0 f5 HLI
    go_wp2_with fail
    go_loopg [5] xs.length (fun gk ov wr => PaaR w xs P Z gk ov wr)
    case atStart => exact ⟨s, [], rfl, b5, HB.out, by rw [HZ.out]; simp, F5, by have := HXL.out; simp; omega⟩
    case round =>
      clear b5 F5 HB HZ
      obtain ⟨s', out, rfl, hbx, hl, hz, hf, hlen⟩ := hrel
      cases gk with
      | zero => cases hl
      | succ gk =>
        have q3 := Cod.bxd_rd hbx
        rcases idxR_find xs s' with ⟨h1, h2⟩ | ⟨i, hi, h1, h2⟩
        · obtain ⟨r, h3, _⟩ := lies_step hl
          rw [h1] at h3; cases h3
        · have hl' : (decide (xs[i].Parent = zSt) || liesN xs gk xs[i].Parent zSt) = true := by
            have e : liesN xs (gk + 1) s' zSt = (match findR xs s' with | none => false | some r => decide (r.Parent = zSt) || liesN xs gk r.Parent zSt) := rfl
            rw [e, h1] at hl
            exact hl
          have hT0 : s'.T ≠ 0 := by rw [← (findR_some h1).2]; exact HT.out _ (findR_some h1).1
          have hz2 : Z = joinB [47] (xs[i].Name :: namesN xs gk xs[i].Parent).reverse ++ out := by rw [hz, names_step gk h1 hT0]
          have hnl := HNL.out xs[i] (List.getElem_mem hi)
          have hir : i < rs.length := by rw [hX.len]; exact hi
          have j1 : (0 : Int) ≤ (i : Int) := by omega
          have j2 : (i : Int) < (rs.length : Int) := by omega
          obtain ⟨g, off, rfl, hg⟩ := hs.adC (by omega)
          have hin := hX.at_ i hir hi
          have e1 : codR.rd wr g (off + i * 8) = some rs[i] := (hs.fr0 hf).rd i hir
          have ep := hin.parent
          have en := hin.name
          have CF := Lib.hid (r12find_any wr (some ⟨g, off, none⟩) c rs.length rs xs rfl (hs.fr0 hf) (by omega) (hX.fr hf) s')
          rw [h2] at CF
          generalize rs[i] = r at e1 ep en
          rw [ep] at hl' hz2
          rw [en] at hz2 hnl
          clear hz hin ep en h1 h2 hl hT0
          have HL := Lib.hid hl'
          have HZ2 := Lib.hid hz2
          clear hl' hz2
          go_upto_region 5 with (go_at_call 16; refine CF.out.mono ?_; rintro e w2 ⟨rfl, f2⟩; have e2 := Cod.rd_fr0 e1 f2)
          have fa : Fr noB w2 (w2.alloc (codR.o r)) := (Fr.refl noB w2).alloc _
          have q := rwAt (Cod.rd_new' (C := codR) w2 r)
          have hbx2 := Cod.bxd_fr0 (Cod.bxd_fr0 hbx f2) fa
          have F2 := (hf.step0 f2).step0 fa
          obtain ⟨u1, u2, u3, u4, u5, u6⟩ := q
          have hst := okS.stR_box hbx2 r.Parent
          have z1 : ¬ 9223372036854775807 < (str r.Name).size + (str out).size := by rw [str_size, str_size]; omega
          have z2 : ¬ 9223372036854775807 < (1 : Nat) + ((str r.Name).size + (str out).size) := by rw [str_size, str_size]; omega
          have z3 : ¬ 9223372036854775807 < ((str r.Name).size + (str out).size) + (1 : Nat) := by rw [str_size, str_size]; omega
          obtain ⟨p1, p2, p3⟩ := Cod.put_fr hbx2 r.Parent
          clear q3 e1 e2 hbx u1 u3 u5 u6
          generalize w2.alloc (codR.o r) = W at u2 u4 hbx2 F2 hst p1 p2 p3 ⊢
          generalize w2.heap.size = N at u2 u4 ⊢
          by_cases hpz : r.Parent = zSt
          · have HE := Lib.hid (HZ2.out.trans (by rw [hpz, names_zero rfl]; simp [joinB]) : Z = r.Name ++ out)
            have d1 : decide (r.Parent = zSt) = true := by simp [hpz]
            clear HZ2 HL
            go_wp2_with fail
            go_ret
            exact ⟨by rw [HE.out, ← str_app]; rfl, F2⟩
          · have d1 : decide (r.Parent = zSt) = false := by simp [hpz]
            have HL2 := Lib.hid (show liesN xs gk r.Parent zSt = true by have := HL.out; rw [d1, Bool.false_or] at this; exact this)
            have HE := Lib.hid (HZ2.out.trans (by
              have := joinB_end [47] r.Name (l := (namesN xs gk r.Parent).reverse) (by simpa using names_ne HT.out HL2.out)
              rw [List.reverse_cons, this]; simp) : Z = joinB [47] (namesN xs gk r.Parent).reverse ++ (47 :: (r.Name ++ out)))
            clear HZ2 HL hpz
            go_wp2_with fail
            go_roundg gk
            case measure => omega
            case rel => exact ⟨r.Parent, 47 :: (r.Name ++ out), congrArg Value.string (slash_app _ _), p3, HL2.out, HE.out, F2.step1 p1 (by have := HP.out; omega), by simp; omega⟩
end Go.Proofs.Ytefcalkbfaefgaa
