/- The walk of DifferPaths. (ex_ldS_at, ex_ldR_at, ex_ldO_at, rdI) -/
import Derived.Test.YtefcalkbfaefgaaGreatLawDsK
namespace Go.Proofs.YtefcalkbfaefgaaGreat
open Go.RowKit Go.Sort
set_option linter.unusedVariables false
set_option linter.unusedSimpArgs false
attribute [local go_sem] Oper.semAt_some

theorem str_appP (a b : List UInt8) : str a ++ str b = str (a ++ b) := by
  apply ByteArray.ext
  simp [str, ByteArray.data_append]
@[simp] theorem bldS_f0 (w : World) (b : Int) : (Instr.build 30 #[(0, .int .i64 b)]).run Tryz.prog w = .ok (.agg (codS.A ⟨b, 0⟩)) w := by
  rw [Cod.A_eq]
  kernel_rfl
theorem path_len {xs : List RwP} (h : PthOk xs) (s : St) : (pathR xs s).length ≤ 61 * xs.length := by
  unfold pathR
  split
  · have h1 := names_len' h.ok xs.length s
    have h2 := joinB_len (namesN xs xs.length s).reverse (fun x hx => h1.2 x (by simpa using hx))
    rw [List.length_reverse] at h2
    have := h1.1
    omega
  · simp
set_option maxRecDepth 100000 in
set_option maxHeartbeats 16000000 in
theorem lawPaths_any (W : World) (A : Option Addr) (c : Nat) (rs : List OpW) (xs : List Opn) (hs : Sl W A (codO.row rs)) (hb : rs.length ≤ 140737488355328) (hX : OpsIn W rs xs) :
    Calls Tryz.prog 5 #[.slice A rs.length c] W (Gives W (.bool true)) := by
  have CT := Lib.hid (fun w' (f : Fr noB W w') => tree14_any w' A c rs xs _ rfl (hs.fr0 f) hb (hX.fr f))
  clear hs hb hX
  go_enter Tryz.func5, Tryz.ntmps5
  go_upto_region 4 with (first
    | (go_at_call 6; refine (alive14_any _).mono ?_; rintro e w1 ⟨rfl, f1⟩)
    | (go_at_call 7; refine (CT.out w1 f1).mono ?_; rintro e w2 ⟨b, t, L, m, rfl, T2⟩))
  have HT := Lib.hid T2
  have F2 := Lib.hid (f1.step0 T2.fr)
  clear f1 T2 CT
  have hG := HT.out.gv
  have CR := Lib.hid (gvRows_any hG (by have := HT.out.len; omega))
  have HGV := Lib.hid hG.gvt
  have HOK := Lib.hid hG.ok
  clear hG
  go_upto_region 6 with (go_at_call 8; refine CR.out.mono ?_; rintro e w3 ⟨A3, c3, rs3, ys, rfl, o3, x3, ap3, p3, q3, f3⟩)
  have HRG := Lib.hid (rows_g HOK.out HT.out.srt (by have := HT.out.len; omega) HT.out.T HGV.out p3 q3)
  have HS3 := Lib.hid (Sl.own o3)
  have HR3 := Lib.hid (show RwsIn w3 rs3 ys from ⟨x3.1, fun i h h' => (x3.2 i h h').row.inn⟩)
  have HLY := Lib.hid (show rs3.length = ys.length from x3.1)
  have F3 := Lib.hid (F2.out.step0 f3)
  have HL60 := Lib.hid (show rs3.length ≤ 60 by rw [HLY.out]; exact HRG.out.len)
  have HP := Lib.hid HRG.out.pth
  clear CR HGV HOK o3 x3 ap3 p3 q3 f3 F2
  have CP := Lib.hid (fun w' (f : Fr noB w3 w') s (hw : wfS s = true) => path_any w' A3 c3 _ rs3 ys rfl (HS3.out.fr0 f) (HR3.out.fr f) HP.out s hw)
  have CL := Lib.hid (fun w' (f : Fr noB w3 w') s p => gvLies_any w' A3 c3 _ rs3 ys rfl (HS3.out.fr0 f) (by have := HL60.out; omega) (HR3.out.fr f) s p)
  go_loopg [20] rs3.length (fun gk iv wr => ∃ i : Nat, iv = .int .i64 (i : Int) ∧ gk = rs3.length - i ∧ i ≤ rs3.length ∧ Fr noB w3 wr)
  case atStart => exact ⟨0, rfl, rfl, by omega, Fr.refl _ _⟩
  case round =>
    obtain ⟨k, rfl, rfl, hk, hf⟩ := hrel
    by_cases hlt : k < rs3.length
    · have j0 : (0 : Int) ≤ (k : Int) := by omega
      have j1 : (k : Int) < (rs3.length : Int) := by omega
      have hly : k < ys.length := by rw [← HLY.out]; exact hlt
      obtain ⟨g, off, rfl, hgg⟩ := HS3.out.adC (by omega)
      have e1 : codR.rd wr g (off + k * 8) = some rs3[k] := (HS3.out.fr0 hf).rd k hlt
      have hin := HR3.out.at_ k hlt hly
      have hym : ys[k] ∈ ys := List.getElem_mem hly
      have hpo := path_of HRG.out.gv hym
      have hwp : wfS ys[k].Parent = true := by
        have := (HRG.out.row _ hym).pr
        unfold okP at this
        rw [Bool.or_eq_true] at this
        exact this.elim rightS_wf fixedS_wf
      have hwn : wfS ys[k].Node = true := rightS_wf (HRG.out.row _ hym).nd
      generalize rs3[k] = r at e1 hin
      generalize ys[k] = y at hin hym hpo hwp hwn
      have HLT := Lib.hid hlt
      have HK := Lib.hid (show k ≤ 60 by have := HL60.out; omega)
      have en := hin.node
      have ep := hin.parent
      have em := hin.name
      rw [en, ep, em] at hpo
      rw [en] at hwn
      rw [ep] at hwp
      have HPO := Lib.hid hpo
      have HWN := Lib.hid hwn
      have HWP := Lib.hid hwp
      have HNM := Lib.hid (show r.Name.length ≤ 60 by rw [← hin.name]; exact HP.out.ok _ hym)
      clear hk hlt hly hgg hin hym hpo hwp hwn en ep em
      go_upto_region 8 with fail
      have f12 : Fr noB wr (wr.alloc (codR.o r)) := (Fr.refl noB wr).alloc _
      obtain ⟨u1, u2, u3, u4, u5, u6⟩ := rwAt (Cod.rd_new' (C := codR) wr r)
      have F12 := hf.step0 f12
      clear e1 f12 hf u3 u5 u6
      generalize wr.alloc (codR.o r) = W12 at u1 u2 u4 F12 ⊢
      generalize wr.heap.size = D2 at u1 u2 u4 ⊢
      cases hli : liesR ys r.Node trS with
      | true =>
        have HLI := Lib.hid hli
        have hpn := HPO.out.1 hli
        clear hli
        have C1 := Lib.hid (fun w' (f : Fr noB W12 w') => CP.out w' (F12.step0 f) r.Node HWN.out)
        rw [hpn] at C1
        go_upto_region 11 with (go_at_call 14; refine (C1.out _ (Fr.refl noB _)).mono ?_; rintro e w13 ⟨rfl, f13⟩)
        replace u1 := Cod.rd_fr0 u1 f13
        replace u2 := Cod.rd_fr0 u2 f13
        replace u4 := cell_fr0 u4 f13
        have F13 := F12.step0 f13
        have C2 := Lib.hid (CL.out w13 F13 r.Node ⟨0, 1⟩)
        rw [show liesR ys r.Node ⟨0, 1⟩ = true from HLI.out] at C2
        clear f13 C1 F12
        clear hpn
        have z0 : (str ([] : List UInt8)).toList.isEmpty = true := by rw [str_toList]; rfl
        go_wp2_with (go_at_call 15; refine C2.out.mono ?_; rintro e w14 ⟨rfl, f14⟩)
        go_roundg (rs3.length - (k + 1))
        case measure => have := HLT.out; omega
        case rel => exact ⟨k + 1, by first | (simp; done) | exact congrArg (Value.int .i64) (IntWalk.wrap64_in _ (by have := HK.out; omega)), rfl, HLT.out, F13.step0 f14⟩
      | false =>
        have HLI := Lib.hid hli
        by_cases hpz : r.Parent = zSt
        · have hpn := HPO.out.2.1 hli hpz
          have d1 : decide (r.Parent = zSt) = true := by simp [hpz]
          clear hli hpz
          have C1 := Lib.hid (fun w' (f : Fr noB W12 w') => CP.out w' (F12.step0 f) r.Node HWN.out)
          rw [hpn] at C1
          go_upto_region 11 with (go_at_call 14; refine (C1.out _ (Fr.refl noB _)).mono ?_; rintro e w13 ⟨rfl, f13⟩)
          replace u1 := Cod.rd_fr0 u1 f13
          replace u2 := Cod.rd_fr0 u2 f13
          replace u4 := cell_fr0 u4 f13
          have F13 := F12.step0 f13
          have C2 := Lib.hid (CL.out w13 F13 r.Node ⟨0, 1⟩)
          rw [show liesR ys r.Node ⟨0, 1⟩ = false from HLI.out] at C2
          clear f13 C1 F12
          clear hpn
          go_wp2_with (go_at_call 15; refine C2.out.mono ?_; rintro e w14 ⟨rfl, f14⟩; have v2 := Cod.rd_fr0 u2 f14; have v4 := cell_fr0 u4 f14)
          go_roundg (rs3.length - (k + 1))
          case measure => have := HLT.out; omega
          case rel => exact ⟨k + 1, by first | (simp; done) | exact congrArg (Value.int .i64) (IntWalk.wrap64_in _ (by have := HK.out; omega)), rfl, HLT.out, F13.step0 f14⟩
        · have hpn := HPO.out.2.2 hli hpz
          have d1 : decide (r.Parent = zSt) = false := by simp [hpz]
          clear hli hpz
          have C1 := Lib.hid (fun w' (f : Fr noB W12 w') => CP.out w' (F12.step0 f) r.Node HWN.out)
          rw [hpn] at C1
          go_upto_region 11 with (go_at_call 14; refine (C1.out _ (Fr.refl noB _)).mono ?_; rintro e w13 ⟨rfl, f13⟩)
          replace u1 := Cod.rd_fr0 u1 f13
          replace u2 := Cod.rd_fr0 u2 f13
          replace u4 := cell_fr0 u4 f13
          have F13 := F12.step0 f13
          have C2 := Lib.hid (CL.out w13 F13 r.Node ⟨0, 1⟩)
          rw [show liesR ys r.Node ⟨0, 1⟩ = false from HLI.out] at C2
          clear f13 C1 F12
          clear hpn
          go_upto_region 9 with (go_at_call 15; refine C2.out.mono ?_; rintro e w14 ⟨rfl, f14⟩; have v2 := Cod.rd_fr0 u2 f14; have v4 := cell_fr0 u4 f14)
          have F14 := F13.step0 f14
          have C3 := Lib.hid (fun w' (f : Fr noB w14 w') => CP.out w' (F14.step0 f) r.Parent HWP.out)
          have hpl := path_len HP.out r.Parent
          have hnl : r.Name.length ≤ 60 := HNM.out
          have hyl : ys.length ≤ 60 := HRG.out.len
          clear u1 u2 u4 f14 C2
          generalize pathR ys r.Parent = pp at C3 hpl ⊢
          have z1 : ¬ 9223372036854775807 < (str pp).size + (1 : Nat) := by rw [str_size]; omega
          have z2 : ¬ 9223372036854775807 < (str pp).size + 1 + (str r.Name).size := by rw [str_size, str_size]; omega
          have z3 : ((str (pp ++ 47 :: r.Name)).toList == (str pp ++ (⟨#[47]⟩ : ByteArray) ++ str r.Name).toList) = true := by
            rw [show (⟨#[47]⟩ : ByteArray) = str [47] from rfl, str_appP, str_appP, List.append_assoc, List.singleton_append, beq_self_eq_true]
          clear hpl hyl hnl
          have hk9 : ∀ w' w'' : World, Fr noB w' w'' → (codS.rd w' D2 2 = some r.Parent ∧ w'.cell? ⟨D2, 6, none⟩ = some (.string (str r.Name))) → (codS.rd w'' D2 2 = some r.Parent ∧ w''.cell? ⟨D2, 6, none⟩ = some (.string (str r.Name))) := fun w' w'' f h => ⟨Cod.rd_fr0 h.1 f, cell_fr0 h.2 f⟩
          have fd : Fr noB w14 w14.drew := (Fr.refl noB w14).drew
          have hF0 := hk9 _ _ fd ⟨v2, v4⟩
          refine wp_region_M 9 10 [⟨268435456, 256, 0⟩, ⟨536870912, 32, 0⟩, ⟨1073741824, 128, 0⟩, ⟨2147483648, 1073741824, 4⟩, ⟨4294967296, 2684354560, 10⟩, ⟨8589934592, 4294967296, 16⟩, ⟨17179869184, 128, 0⟩, ⟨34359738368, 17179869184, 64⟩, ⟨68719476736, 42949672960, 160⟩, ⟨137438953472, 68987912192, 257⟩] [(true, 0), (true, 1), (true, 2), (true, 3), (true, 6), (true, 7), (false, 4), (true, 5), (true, 8)] (fun w' => codS.rd w' D2 2 = some r.Parent ∧ w'.cell? ⟨D2, 6, none⟩ = some (.string (str r.Name))) (by kernel_rfl) rfl (by kernel_rfl) (by kernel_rfl) (by kernel_rfl) hF0 (fun hA hF => ?_)
          iterate 6
            refine wpAnyS_take (v := ?_) hA rfl (fun _ _ _ h => h) (Or.inl ⟨by rfl, ?_⟩) hF (fun hA => ?_)
            rotate_left
            · intro wS hSw; (try dsimp only at hSw); obtain ⟨s1, s2⟩ := hSw; first | (apply Eq.trans; apply ex_ld_id; exact rfl; exact rfl; assumption; with_reducible rfl) | (apply Eq.trans; apply ex_ldR_at; exact rfl; exact rfl; assumption; with_reducible rfl) | (apply Eq.trans; apply ex_ldO_at; exact rfl; exact rfl; assumption; with_reducible rfl) | (apply Eq.trans; apply ex_ldS_at; exact rfl; exact rfl; assumption; with_reducible rfl) | (go_simp; try with_reducible rfl)
            try simp only [List.getElem_toArray, List.getElem_cons_zero, List.getElem_cons_succ, Act.put, List.setIfInBounds_toArray, List.set_cons_zero, List.set_cons_succ]
          refine wpAnyS_one hA rfl (fun K' hK => ?_)
          go_simp
          go_at_call 14
          refine (C3.out _ fd).mono ?_
          rintro e w15 ⟨rfl, f15'⟩
          replace hF := hk9 _ _ f15' hF
          refine hK.out _ _ hF (fun hA => ?_)
          clear hK K'
          as_aux_lemma =>
          iterate 2
            refine wpAnyS_take (v := ?_) hA rfl (fun _ _ _ h => h) (Or.inl ⟨by rfl, ?_⟩) hF (fun hA => ?_)
            rotate_left
            · intro wS hSw; (try dsimp only at hSw); obtain ⟨s1, s2⟩ := hSw; first | (apply Eq.trans; apply ex_ld_id; exact rfl; exact rfl; assumption; with_reducible rfl) | (apply Eq.trans; apply ex_ldR_at; exact rfl; exact rfl; assumption; with_reducible rfl) | (apply Eq.trans; apply ex_ldO_at; exact rfl; exact rfl; assumption; with_reducible rfl) | (apply Eq.trans; apply ex_ldS_at; exact rfl; exact rfl; assumption; with_reducible rfl) | (go_simp; try with_reducible rfl)
            try simp only [List.getElem_toArray, List.getElem_cons_zero, List.getElem_cons_succ, Act.put, List.setIfInBounds_toArray, List.set_cons_zero, List.set_cons_succ]
          refine wpAnyS_end hA rfl ?_
          simp only [List.drop_succ_cons, List.drop_zero]
          have f15 := fd.step0 f15'
          clear hF hk9 hF0 fd f15' v2 v4
          go_wp2_with fail
          go_roundg (rs3.length - (k + 1))
          case measure => have := HLT.out; omega
          case rel => exact ⟨k + 1, by first | (simp; done) | exact congrArg (Value.int .i64) (IntWalk.wrap64_in _ (by have := HK.out; omega)), rfl, HLT.out, F14.step0 f15⟩
    · have j1 : ¬ (k : Int) < (rs3.length : Int) := by omega
      have C1 := Lib.hid (fun w' (f : Fr noB w3 w') => CP.out w' f zSt rfl)
      have C2 := Lib.hid (fun w' (f : Fr noB w3 w') => CP.out w' f ⟨1, 0⟩ rfl)
      rw [path_zero] at C1
      rw [path_not HRG.out.gv] at C2
      have z0 : (str ([] : List UInt8)).toList.isEmpty = true := by rw [str_toList]; rfl
      have tok : True := trivial
      go_wp2_with (first
        | (go_at_call 14; have _t := tok; refine (C1.out _ hf).mono ?_; rintro e w14 ⟨rfl, f14⟩; clear tok _t)
        | (go_at_call 14; refine (C2.out w14 (hf.step0 f14)).mono ?_; rintro e w15 ⟨rfl, f15⟩))
      go_ret
      exact ⟨rfl, F3.out.step0 ((hf.step0 f14).step0 f15)⟩
theorem lawPaths14 (W : World) (A : Option Addr) (c : Nat) (rs : List OpW) (xs : List Opn) (hs : Sl W A (codO.row rs)) (hb : rs.length ≤ 140737488355328) (hX : OpsIn W rs xs) :
    Calls Tryz.prog 5 #[.slice A rs.length c] W (Gives W (.bool true)) := lawPaths_any W A c rs xs hs hb hX
end Go.Proofs.YtefcalkbfaefgaaGreat
