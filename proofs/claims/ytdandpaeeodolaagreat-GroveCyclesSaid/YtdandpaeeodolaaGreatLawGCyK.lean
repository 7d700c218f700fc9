/- The walk of GroveCycles. (ex_ldS_at, ex_ldR_at, rdI) -/
import Derived.Test.YtdandpaeeodolaaGreatGlFK
import Derived.Test.YtdandpaeeodolaaGreatGlCK
namespace Go.Proofs.YtdandpaeeodolaaGreat
open Go.RowKit Go.Sort
set_option linter.unusedVariables false
set_option linter.unusedSimpArgs false
attribute [local go_sem] Oper.semAt_some

theorem and_maskG (x : Int) (m : Nat) (hm : m ≤ 1023) : ∃ r : Nat, bits BinOp.and IntKind.i64 x (m : Int) = (r : Int) ∧ r ≤ m := by
  refine ⟨(BitVec.ofInt 64 x &&& BitVec.ofInt 64 (m : Int)).toNat, ?_, ?_⟩
  · have hle : (BitVec.ofInt 64 x &&& BitVec.ofInt 64 (m : Int)).toNat ≤ 1023 := by
      rw [BitVec.toNat_and]
      refine Nat.le_trans Nat.and_le_right ?_
      rw [BitVec.toNat_ofInt]
      omega
    show IntKind.i64.wrap (((BitVec.ofInt 64 x &&& BitVec.ofInt 64 (m : Int)).toNat : Nat) : Int) = _
    rw [IntKind.wrap_i64]
    omega
  · rw [BitVec.toNat_and]
    refine Nat.le_trans Nat.and_le_right ?_
    rw [BitVec.toNat_ofInt]
    omega
theorem putR_len {n i k : Nat} : (putR (lineR n) (rowM i k)).length ≤ n + 1 := by
  unfold putR
  split <;> simp [lineR_len]
def CyR (W : World) (b Pp : Nat) (n : Nat) (gk : Nat) (xv nv : Value) (wr : World) : Prop :=
  ∃ (x : Nat) (t : TrW) (B : Option Addr) (cB : Nat), xv = .int .i64 (x : Int) ∧ gk = n - x ∧ x ≤ n ∧ nv = .slice B ((List.range x).map ndC).length cB ∧ OwnC codS W wr B cB ((List.range x).map ndC) ∧ codS.bxd wr Pp = some (parC x) ∧ GvS W.heap.size wr b t (lineL x) ∧ Fr noB W wr ∧ ∀ g, B.map (·.block) = some g → g ≠ Pp
set_option maxRecDepth 100000 in
set_option maxHeartbeats 16000000 in
theorem lawCycles_any (W : World) (a0 a1 a2 : Int) : Calls Tryz.prog 5 #[.int .i64 a0, .int .i64 a1, .int .i64 a2] W (Gives W (.bool true)) := by
  go_enter Tryz.func5, Tryz.ntmps5
  go_upto_region 4 with (first
    | (go_at_call 8; refine (gvNew_any _).mono ?_; rintro e w1 ⟨b, t0, rfl, h0, hu0, f1⟩)
    | (go_at_call 9; refine (l12alive_any w1).mono ?_; rintro e w2 ⟨rfl, f2⟩))
  have h2 := Lib.hid (h0.fr0 f2)
  have F2 := Lib.hid (f1.step0 f2)
  clear h0 f1 f2 hu0
  obtain ⟨r, er, hr⟩ := and_maskG a0 15 (by omega)
  obtain ⟨r1, er1, hr1⟩ := and_maskG a1 1023 (by omega)
  obtain ⟨r2, er2, hr2⟩ := and_maskG a2 1023 (by omega)
  have er' : bits BinOp.and IntKind.i64 a0 15 = (r : Int) := er
  have ew : wrap64 (2 + (r : Int)) = ((r + 2 : Nat) : Int) := by unfold wrap64; omega
  clear er
  obtain ⟨n, hn⟩ : ∃ n : Nat, n = r + 2 := ⟨_, rfl⟩
  rw [← hn] at ew
  have ht1 : (bits BinOp.and IntKind.i64 a1 1023).tmod (n : Int) = ((r1 % n : Nat) : Int) := by rw [show bits BinOp.and IntKind.i64 a1 1023 = (r1 : Int) from er1]; rfl
  have ht2 : (bits BinOp.and IntKind.i64 a2 1023).tmod (n : Int) = ((r2 % n : Nat) : Int) := by rw [show bits BinOp.and IntKind.i64 a2 1023 = (r2 : Int) from er2]; rfl
  have hi0 : r1 % n < n := Nat.mod_lt _ (by omega)
  have hk0 : r2 % n < n := Nat.mod_lt _ (by omega)
  generalize r1 % n = i at ht1 hi0
  generalize r2 % n = k at ht2 hk0
  have hn17 : n ≤ 17 := by omega
  have hnp : ¬ ((n : Int) = 0) := by omega
  have ER1 := Lib.hid er1
  have ER2 := Lib.hid er2
  have HN := Lib.hid (show n ≤ 17 ∧ i < n ∧ k < n from ⟨hn17, hi0, hk0⟩)
  clear er1 er2 hn hr hr1 hr2 hi0 hk0 hn17
  go_upto_region 7 with fail
  rw [ew]
  clear ew
  have fa : Fr noB w2 (w2.alloc (.cells #[] 28)) := (Fr.refl noB w2).alloc _
  have fb : Fr noB w2 ((w2.alloc (.cells #[] 28)).alloc (codS.o zSt)) := fa.alloc _
  have b0 := Cod.bxd_new (C := codS) (w2.alloc (.cells #[] 28)) zSt
  have own0 : OwnC codS w2 (w2.alloc (.cells #[] 28)) (some ⟨w2.heap.size, 0, none⟩) 0 [] := World.ownsRow_lit (base := w2.heap.size) (e := 28) (size := 2) w2 #[] 0 (Nat.le_refl _) (by unfold maxLen; omega) (by simp)
  have hz : (w2.alloc (.cells #[] 28)).heap.size = w2.heap.size + 1 := by simp
  rw [hz] at b0
  have hst := okS.stR_box b0 zSt
  obtain ⟨p1, p2, p3⟩ := Cod.put_fr b0 zSt
  have fc : Fr noB w2 (codS.put ((w2.alloc (.cells #[] 28)).alloc (codS.o zSt)) (w2.heap.size + 1) zSt) := fb.step1 p1 (by omega)
  have c0 : CyR W b (w2.heap.size + 1) n n (.int .i64 ((0 : Nat) : Int)) (.slice (some ⟨w2.heap.size, 0, none⟩) 0 0) (codS.put ((w2.alloc (.cells #[] 28)).alloc (codS.o zSt)) (w2.heap.size + 1) zSt) :=
    ⟨0, t0, some ⟨w2.heap.size, 0, none⟩, 0, rfl, rfl, by omega, rfl, own_base (own_fr (own_new0 own0 ((Fr.refl noB _).alloc _)) p1 (by intro g hg; rw [ownBlock_sl'] at hg; simp at hg; show ¬ g = w2.heap.size + 1; omega)) F2.out.size, p3, h2.out.fr0 fc, F2.out.step0 fc, by intro g hg; simp at hg; omega⟩
  have hpp : W.heap.size ≤ w2.heap.size + 1 := by have := F2.out.size; omega
  clear fa fb fc b0 own0 hz h2 F2 p1 p2 p3
  go_upto_region 9 with fail
  clear hst
  generalize codS.put ((w2.alloc (.cells #[] 28)).alloc (codS.o zSt)) (w2.heap.size + 1) zSt = w3 at c0 ⊢
  generalize w2.heap.size + 1 = Pp at c0 hpp ⊢
  have HPP := Lib.hid hpp
  clear hpp
  generalize (some ⟨w2.heap.size, 0, none⟩ : Option Addr) = B0 at c0 ⊢
  go_wp2_with fail
  go_loopg [10, 8] n (fun gk xv nv wr => CyR W b Pp n gk xv nv wr)
  case atStart => exact c0
  case round =>
    clear c0
    obtain ⟨x, t, B, cB, rfl, rfl, hx, rfl, hoB, hbx, hG, hF, hBP⟩ := hrel
    by_cases hlt : x < n
    · have x1 : (x : Int) < (n : Int) := by omega
      have hx9 : x ≤ 17 := by have := HN.out.1; omega
      have HB := Lib.hid hoB
      have HBX := Lib.hid hbx
      have HG := Lib.hid hG
      have HF := Lib.hid hF
      have HBP := Lib.hid hBP
      have HLT := Lib.hid hlt
      clear hlt hx hoB hbx hG hF hBP
      go_upto_region 13 with fail
      have f12 : Fr noB wr (wr.alloc (codS.o ⟨(x : Int) + 1, 1⟩)) := (Fr.refl noB wr).alloc _
      have q1 : codS.rd (wr.alloc (codS.o ⟨(x : Int) + 1, 1⟩)) wr.heap.size 0 = some ⟨(x : Int) + 1, 1⟩ := Cod.rd_new' (C := codS) wr _
      have bs1 := Cod.bxd_new (C := codS) wr (⟨(x : Int) + 1, 1⟩ : St)
      have bp := Cod.bxd_fr0 HBX.out f12
      have q2 := Cod.bxd_rd bp
      have hlo := Nat.lt_of_lt_of_le (Cod.bxd_lt HBX.out) (Nat.le_refl _)
      obtain ⟨D, hD⟩ : ∃ d, d = wr.heap.size := ⟨_, rfl⟩
      rw [← hD] at q1 bs1 hlo ⊢
      have HBD := Lib.hid (show ∀ q, B.map (·.block) = some q → q ≠ D from fun q hq => by have := (own_lt HB.out q hq).2; omega)
      have BS := Lib.hid bs1
      have BP := Lib.hid bp
      have HG2 := Lib.hid (HG.out.fr0 f12)
      have HF2 := Lib.hid (HF.out.step0 f12)
      have HO2 := Lib.hid (own_new0 HB.out f12)
      clear hD f12 bs1 bp hlo HB HBX HG HF
      generalize wr.alloc (codS.o ⟨(x : Int) + 1, 1⟩) = W12 at q1 q2 BS BP HG2 HF2 HO2 ⊢
      have hnd : (⟨(x : Int) + 1, 1⟩ : St) = ndC x := rfl
      go_upto_region 15 with (first
        | (go_at_call 17; refine (l12move_any _ ⟨(x : Int) + 1, 1⟩ ⟨(x : Int) + 1, 1⟩ (parC x) [110]).mono ?_; rintro e w13 ⟨rfl, f13⟩; have HG3 := Lib.hid (HG2.out.fr0 f13); have HF3 := Lib.hid (HF2.out.step0 f13); have HO3 := Lib.hid (own_new0 HO2.out f13); have BS3 := Lib.hid (Cod.bxd_fr0 BS.out f13); have BP3 := Lib.hid (Cod.bxd_fr0 BP.out f13); clear f13 q1 q2)
        | (go_at_call 11; go_loud (refine (gvIns_mid (lineL x) [] (by rw [List.append_nil]; exact HG3.out) (by rw [List.append_nil]; exact line_srt x) (by rw [List.append_nil]; unfold lineL; simp; omega) _ (opC x) (mv_in _ _ _ _ _ (by decide)) (by simp [opC, mvP]) (line_good x (by omega)) (line_lt (Nat.le_refl x)) (by simp)).mono ?_; rintro e w14 ⟨t14, rfl, hG4, _, _, f14⟩; have HG4 := Lib.hid hG4; have F14 := Lib.hid f14; clear hG4 f14)))
      have f14 := F14.out
      have offS : ¬ trM b t D := HG3.out.offC (Cod.bxd_blk BS3.out) (by decide) (by decide)
      have offP : ¬ trM b t Pp := HG3.out.offC (Cod.bxd_blk BP3.out) (by decide) (by decide)
      have bs4 := Cod.bxd_fr BS3.out f14 offS
      have bp4 := Cod.bxd_fr BP3.out f14 offP
      have ho4 := HG3.out.own f14 HO3.out (by decide) (by decide)
      have hF4 := HF3.out.step f14 (fun g hg => .inl (HG3.out.base hg))
      have hG4 : GvS W.heap.size w14 b t14 (lineL (x + 1)) := by rw [lineL_succ]; exact HG4.out
      rw [hnd] at bs4
      have qs4 := Cod.bxd_rd bs4
      have fn : Fr noB w14 (w14.alloc (codS.ro [ndC x])) := (Fr.refl noB w14).alloc _
      have sl := Cod.sl_new (C := codS) w14 [ndC x]
      have o5 := own_new0 ho4 fn
      have BS5 := Lib.hid (Cod.bxd_fr0 bs4 fn)
      have BP5 := Lib.hid (Cod.bxd_fr0 bp4 fn)
      have HG5 := Lib.hid (hG4.fr0 fn)
      have HF5 := Lib.hid (hF4.step0 fn)
      have HW2 := Lib.hid hF4
      clear offS offP ho4 hF4 hG4 f14 HG3 HF3 HO3 F14 HG4 BS3 BP3 bs4 bp4 HG2 HF2 HO2 BS BP
      go_upto_region 16 with (at_builtin; refine wpList_appC' etS W _ rfl _ _ rfl B x cB ((List.range x).map ndC) rfl (by simp) o5 (some ⟨w14.heap.size, 0, none⟩) 1 1 [ndC x] rfl sl rfl (by simp; omega) HF5.out.size ?_; intro A7 c7 w7 hc7 hm7 o7 g7 hA7)
      have e7 : ((List.range x).map ndC ++ [ndC x]) = (List.range (x + 1)).map ndC := by
        rw [List.range_succ, List.map_append]
        rfl
      have l7 : ((List.range x).map ndC ++ [ndC x]).length = x + 1 := by simp
      rw [e7] at o7
      have fg : Fr (fun q => B.map (·.block) = some q) (w14.alloc (codS.ro [ndC x])) w7 := Fr.ofGrown g7 (fun g hg => hg)
      have hvL : ∀ o ∈ lineL (x + 1), o.Over = [] := fun o ho => by
        obtain ⟨y, _, rfl⟩ := List.mem_map.1 ho
        rfl
      have bs7 := Cod.bxd_fr BS5.out fg (fun e => HBD.out _ e rfl)
      have bp7 := Cod.bxd_fr BP5.out fg (fun e => HBP.out _ e rfl)
      have hG7 := HG5.out.frH fg (fun g hg cs z e => by
        obtain ⟨_, cur, z', h4⟩ := own_blk o5 hg
        rw [h4] at e
        injection e with e
        injection e with _ e _
        exact absurd e (by decide)) hvL (fun g hg => by
        obtain ⟨_, cur, z', h4⟩ := own_blk o5 hg
        exact HG5.out.offC h4 (by decide) (by decide))
      have hF7 := gv_own HF5.out o5 g7
      have hA7' : ∀ g, A7.map (·.block) = some g → g ≠ Pp := fun g hg => by
        rcases hA7 with e | e
        · exact HBP.out g (by rw [← e]; exact hg)
        · rw [hg] at e
          injection e with e
          have := Cod.bxd_lt BP5.out
          omega
      have qs7 := Cod.bxd_rd bs7
      have hst7 := okS.stR_box bp7 (ndC x)
      obtain ⟨p1, p2, p3⟩ := Cod.put_fr bp7 (ndC x)
      have hG8 := hG7.frH p1 (fun g hg cs z e => by
        have e' : g = Pp := hg
        subst e'
        have h4 : w7.heap[g]? = some (.cells (codS.cs (parC x)).toArray 28 (0, 0)) := Cod.bxd_blk bp7
        rw [h4] at e
        injection e with e
        injection e with _ e _
        exact absurd e (by decide)) hvL (fun g hg => by
        have e' : g = Pp := hg
        subst e'
        exact hG7.offC (Cod.bxd_blk bp7) (by decide) (by decide))
      have ho8 := own_fr o7 p1 (fun g hg => by rw [ownBlock_sl'] at hg; exact hA7' g hg)
      have hF8 := hF7.step1 p1 HPP.out
      have HE := Lib.hid (And.intro hG8 (And.intro ho8 (And.intro hF8 (And.intro p3 hA7'))))
      clear hG8 ho8 hF8 hA7' hG7 hF7 fg g7 hA7 hc7 hm7 o5 o7 bs7 p1 p2 p3 e7 l7 sl hvL
      go_wp2_with fail
      go_roundg (n - (x + 1))
      case measure => have := HLT.out; omega
      case rel => exact ⟨x + 1, t14, A7, c7, by first | rfl | exact congrArg (Value.int .i64) (IntWalk.wrap64_in _ (by omega)), rfl, HLT.out, by simp, HE.out.2.1, HE.out.2.2.2.1, HE.out.1, HE.out.2.2.1, HE.out.2.2.2.2⟩
    · have x1 : ¬ (x : Int) < (n : Int) := by omega
      have hxn : x = n := by omega
      subst hxn
      have HG := Lib.hid hG
      have HF := Lib.hid hF
      have HO := Lib.hid hoB
      clear hx hlt hoB hbx hG hF hBP
      have hx17 : x ≤ 17 := HN.out.1
      have hi1 := HN.out.2.1
      have hk1 := HN.out.2.2
      have HL17 := Lib.hid (show (lineL x).length ≤ 100 by unfold lineL; simp; omega)
      have i0 : (0 : Int) ≤ (i : Int) := by omega
      have i1 : (i : Int) < (x : Int) := by omega
      have k0 : (0 : Int) ≤ (k : Int) := by omega
      have k1 : (k : Int) < (x : Int) := by omega
      go_upto_region 18 with (go_at_call 12; refine (gvRows_any HG.out (by have := HL17.out; omega)).mono ?_; rintro e w4 ⟨A4, c4, rs4, ys4, rfl, o4, x4, ap4, p4, q4, f4⟩)
      rw [run_line] at p4
      have hy4 : ys4 = lineR x := rise_uniq p4 q4 (lineR_rise x)
      subst hy4
      have HG4 := Lib.hid (HG.out.fr0 f4)
      have HF4 := Lib.hid (HF.out.step0 f4)
      have HO4 := Lib.hid (own_new0 HO.out f4)
      have HR4 := Lib.hid o4
      have HX4 := Lib.hid x4
      have hl4 : rs4.length = x := by rw [x4.1, lineR_len]
      have HL4 := Lib.hid hl4
      clear p4 q4 o4 x4 ap4 f4 HG HF HO
      have hsl := (Sl.own HO4.out : Sl w4 B (codS.row ((List.range x).map ndC)))
      obtain ⟨gB, offB, rfl, hgB⟩ := hsl.adC (by simp; omega)
      have r1 : codS.rd w4 gB (offB + i * 2) = some (ndC i) := by
        have h := hsl.rd i (by simp; omega)
        rw [List.getElem_map, List.getElem_range] at h
        exact h
      have r2 : codS.rd w4 gB (offB + k * 2) = some (ndC k) := by
        have h := hsl.rd k (by simp; omega)
        rw [List.getElem_map, List.getElem_range] at h
        exact h
      have HSL := Lib.hid hsl
      clear hsl hgB
      have hk2 : ∀ w' w'' : World, Fr noB w' w'' → (codS.rd w' gB (offB + i * 2) = some (ndC i) ∧ codS.rd w' gB (offB + k * 2) = some (ndC k)) → (codS.rd w'' gB (offB + i * 2) = some (ndC i) ∧ codS.rd w'' gB (offB + k * 2) = some (ndC k)) := fun w' w'' f h => ⟨Cod.rd_fr0 h.1 f, Cod.rd_fr0 h.2 f⟩
      have fd : Fr noB w4 w4.drew := (Fr.refl noB w4).drew
      refine wp_region_M 12 13 [⟨144115188075855872, 128, 0⟩, ⟨288230376151711744, 0, 0⟩, ⟨576460752303423488, 256, 0⟩, ⟨1152921504606846976, 2, 0⟩, ⟨2305843009213693952, 1729382256910270464, 12⟩, ⟨4611686018427387904, 2305843009213693952, 16⟩, ⟨9223372036854775808, 256, 0⟩, ⟨18446744073709551616, 4, 0⟩, ⟨36893488147419103232, 27670116110564327424, 192⟩, ⟨73786976294838206464, 36893488147419103232, 256⟩, ⟨147573952589676412928, 78686892689417306112, 546⟩, ⟨295147905179352825856, 147718067777752268800, 1025⟩, ⟨590295810358705651712, 295147905179352825856, 2048⟩] [(true, 0), (true, 1), (true, 2), (true, 3), (true, 4), (true, 5), (true, 6), (true, 7), (true, 8), (true, 9), (false, 10), (false, 11)] (fun w' => codS.rd w' gB (offB + i * 2) = some (ndC i) ∧ codS.rd w' gB (offB + k * 2) = some (ndC k)) (by kernel_rfl) rfl (by kernel_rfl) (by kernel_rfl) (by kernel_rfl) (hk2 _ _ fd ⟨r1, r2⟩) (fun hA hF => ?_)
      iterate 10
        refine wpAnyS_take (v := ?_) hA rfl (fun _ _ _ h => h) (Or.inl ⟨by rfl, ?_⟩) hF (fun hA => ?_)
        rotate_left
        · intro wS hSw; (try dsimp only at hSw); obtain ⟨s1, s2⟩ := hSw; first | (apply Eq.trans; apply ex_ld_id; exact rfl; exact rfl; assumption; with_reducible rfl) | (apply Eq.trans; apply ex_ldR_at; exact rfl; exact rfl; assumption; with_reducible rfl) | (apply Eq.trans; apply ex_ldS_at; exact rfl; exact rfl; assumption; with_reducible rfl) | (go_simp; try with_reducible rfl)
        try simp only [List.getElem_toArray, List.getElem_cons_zero, List.getElem_cons_succ, Act.put, List.setIfInBounds_toArray, List.set_cons_zero, List.set_cons_succ]
      refine wpAnyS_one hA rfl (fun K' hK => ?_)
      go_simp
      go_at_call 17
      rw [show (Value.agg #[Value.int IntKind.i64 100, Value.int IntKind.i64 1]) = .agg (codS.A ⟨100, 1⟩) from (vS_eq ⟨100, 1⟩).symm]
      refine (l12move_any _ ⟨100, 1⟩ (ndC i) (ndC k) [109]).mono ?_
      rintro e w5 ⟨rfl, f5⟩
      replace hF := hk2 _ _ f5 hF
      refine hK.out _ _ hF (fun hA => ?_)
      clear hK K'
      as_aux_lemma =>
      have HG5 := Lib.hid ((HG4.out.fr0 fd).fr0 f5)
      refine wpAnyS_one hA rfl (fun K' hK => ?_)
      go_simp
      go_at_call 11
      refine (gvIns_mid (lineL x) [] (by rw [List.append_nil]; exact HG5.out) (by rw [List.append_nil]; exact line_srt x) (by rw [List.append_nil]; have := HL17.out; omega) _ (mvC i k) (mv_in _ _ _ _ _ (by decide)) (by simp [mvC, mvP]) (mvC_good i (by omega) k (by omega)) (line_lt100 (by omega)) (by simp)).mono ?_
      rintro e w6 ⟨t6, rfl, hG6, _, _, f6⟩
      have HO5 := Lib.hid (own_new0 (own_new0 HO4.out fd) f5)
      have offB6 : ¬ trM b t gB := fun h => by
        obtain ⟨_, cur, z, h4⟩ := own_blk HO5.out (g := gB) rfl
        exact HG5.out.offC h4 (by decide) (by decide) h
      replace hF := And.intro (Cod.rd_fr hF.1 f6 offB6) (Cod.rd_fr hF.2 f6 offB6)
      refine hK.out _ _ hF (fun hA => ?_)
      clear hK K'
      as_aux_lemma =>
      refine wpAnyS_end hA rfl ?_
      simp only [List.drop_succ_cons, List.drop_zero]
      have q6 := hF.2
      have q5 := hF.1
      clear hF hk2 r1 r2
      have HO6 := Lib.hid (HG5.out.own f6 HO5.out (by decide) (by decide))
      have nh6 : NoHS (trM b t) (w5) := fun g hg cs z => ⟨fun e => HG5.out.offC e (by decide) (by decide) hg, fun e => HG5.out.offC e (by decide) (by decide) hg⟩
      have HR5 := Lib.hid (own_new0 (own_new0 HR4.out fd) f5)
      have HX6 := Lib.hid (HX4.out.map fun r y h => ((h.fr fd (NoHS.nob _)).fr f5 (NoHS.nob _)).fr f6 nh6)
      have HR6 := Lib.hid (HG5.out.own f6 HR5.out (by decide) (by decide))
      have HF6 := Lib.hid (((HF4.out.step0 fd).step0 f5).step f6 (fun g hg => .inl (HG5.out.base hg)))
      have HG6 := Lib.hid hG6
      clear hG6 f6 nh6 fd f5 HG5 HO5 offB6 HG4 HF4 HO4 HR4 HX4 HR5
      by_cases hki : i ≤ k
      · have g1 : (i : Int) ≤ (k : Int) := by omega
        have HRX := Lib.hid (show runX [] (lineL x ++ mvC i k :: []) = lineR x by
          rw [runX_app, run_line]
          exact mv_no hk1 hki)
        clear hki q5 q6
        go_wp2_with (first
          | (go_at_call 12; refine (gvRows_any HG6.out (by have := HL17.out; simp only [List.length_append, List.length_cons, List.length_nil]; omega)).mono ?_; rintro e w7 ⟨A7, c7, rs7, ys7, rfl, o7, x7, ap7, p7, q7, f7⟩; have F7 := Lib.hid f7; have HW7 := Lib.hid (show OwnC codR w6 w7 A7 c7 rs7 ∧ AllO (RwN w6.heap.size) w7 rs7 (lineR x) from ⟨o7, by rw [HRX.out] at p7; rw [← rise_uniq p7 q7 (lineR_rise x)]; exact x7⟩); have l7 : rs7.length = x := by { rw [HW7.out.2.1, lineR_len] }; have hl9 := Lib.hid l7; clear o7 x7 ap7 p7 q7 f7 l7)
          | (go_at_call 19; go_loud (refine (r12sameX_any w7 A7 A4 c7 c4 rs7.length x rs7 rs4 (lineR x) (lineR x) rfl HL4.out (Sl.own HW7.out.1) (Sl.own (own_new0 HR6.out F7.out)) ⟨HW7.out.2.1, fun i h h' => (HW7.out.2.2 i h h').row.inn⟩ ⟨HX6.out.1, fun i h h' => ((HX6.out.2 i h h').row.inn).fr F7.out⟩ (by have := hl9.out; omega) (by have := HL4.out; omega) (fun i h h' => rfl)).mono ?_; rintro e w8 ⟨rfl, f8⟩; rw [sameX_self]; have F8 := Lib.hid f8; clear f8)))
        go_ret
        exact ⟨rfl, (HF6.out.step0 F7.out).step0 F8.out⟩
      · have g1 : ¬ (i : Int) ≤ (k : Int) := by omega
        have HRX := Lib.hid (show runX [] (lineL x ++ mvC i k :: []) = putR (lineR x) (rowM i k) by
          rw [runX_app, run_line]
          exact mv_yes hi1 (by omega))
        have HFI := Lib.hid (show findR (runX [] (lineL x ++ mvC i k :: [])) (ndC i) = some (rowM i k) by
          rw [HRX.out, findR_put, if_pos (show (rowM i k).Node = ndC i from rfl)])
        clear hki
        have hwi : wfS (ndC i) = true := rightS_wf (by unfold rightS ndC; simp; omega)
        have HWI := Lib.hid hwi
        clear hwi
        go_upto_region 23 with (go_at_call 18; refine (gvRow_any HG6.out (by have := HL17.out; simp only [List.length_append, List.length_cons, List.length_nil]; omega) (ndC i) HWI.out).mono ?_; rintro e w7 ⟨r7, x7, rfl, hx7, hr7, _, f7⟩; rw [show (findR (runX [] (lineL x ++ mvC i k :: [])) (ndC i)).isSome = true from by rw [HFI.out]; rfl])
        have hxx : x7 = rowM i k := by rw [hx7, HFI.out]; rfl
        have h1 : r7.Parent = ndC k := by rw [← hr7.inn.parent, hxx]; rfl
        have h2 : r7.Name = [109] := by rw [show r7.Name = x7.Name from by rw [hr7.inn.eq]; rfl, hxx]; rfl
        have h3 : r7.At = ⟨100, 1⟩ := by rw [show r7.At = x7.At from by rw [hr7.inn.eq]; rfl, hxx]; rfl
        have f8 : Fr noB w7 (w7.alloc (codR.o r7)) := (Fr.refl noB w7).alloc _
        have a8 := rwAt (Cod.rd_new' (C := codR) w7 r7)
        have d1 := a8.parent
        have d2 := a8.name
        have d3 := Cod.rd_cell a8.At 0 (v := .int .i64 r7.At.T) rfl
        rw [h1] at d1
        rw [h2] at d2
        rw [h3] at d3
        have q7 := Cod.rd_fr0 (Cod.rd_fr0 q6 f7) f8
        have HG8 := (HG6.out.fr0 f7).fr0 f8
        have HF8 := Lib.hid ((HF6.out.step0 f7).step0 f8)
        have HR8 := Lib.hid (own_new0 (own_new0 HR6.out f7) f8)
        have HX8 := Lib.hid (HX6.out.map fun r y h => (h.fr f7 (NoHS.nob _)).fr f8 (NoHS.nob _))
        clear hx7 hr7 hxx h1 h2 h3 a8 f7 f8 q5 q6 HG6 HF6 HR6 HX6
        generalize w7.alloc (codR.o r7) = W8 at d1 d2 d3 q7 HG8 HF8 HR8 HX8 ⊢
        generalize w7.heap.size = D at d1 d2 d3 ⊢
        have hq : (str [109]).toList = [109] := str_toList [109]
        have hk8 : ∀ w' w'' : World, Fr noB w' w'' → (codS.rd w' D 2 = some (ndC k) ∧ w'.cell? ⟨D, 6, none⟩ = some (.string (str [109])) ∧ w'.cell? ⟨D, 4, none⟩ = some (.int .i64 100) ∧ codS.rd w' gB (offB + k * 2) = some (ndC k) ∧ GvS W.heap.size w' b t6 (lineL x ++ mvC i k :: [])) → (codS.rd w'' D 2 = some (ndC k) ∧ w''.cell? ⟨D, 6, none⟩ = some (.string (str [109])) ∧ w''.cell? ⟨D, 4, none⟩ = some (.int .i64 100) ∧ codS.rd w'' gB (offB + k * 2) = some (ndC k) ∧ GvS W.heap.size w'' b t6 (lineL x ++ mvC i k :: [])) := fun w' w'' f h => ⟨Cod.rd_fr0 h.1 f, cell_fr0 h.2.1 f, cell_fr0 h.2.2.1 f, Cod.rd_fr0 h.2.2.2.1 f, h.2.2.2.2.fr0 f⟩
        have fd : Fr noB W8 W8.drew := (Fr.refl noB W8).drew
        refine wp_region_M 28 29 [⟨77371252455336267181195264, 16384, 0⟩, ⟨154742504910672534362390528, 77371252455336267181195264, 1⟩, ⟨309485009821345068724781056, 154742504910672534362398720, 2⟩, ⟨618970019642690137449562112, 464227514732017603087171584, 6⟩, ⟨1237940039285380274899124224, 154742504910672534362390784, 2⟩, ⟨2475880078570760549798248448, 154742504910672534362390532, 2⟩, ⟨4951760157141521099596496896, 3868562622766813359059763200, 50⟩, ⟨9903520314283042199192993792, 5106502662052193633958887424, 66⟩, ⟨19807040628566084398385987584, 10677232838836404871004946432, 138⟩, ⟨39614081257132168796771975168, 19961783133476756932748378112, 258⟩, ⟨79228162514264337593543950336, 39614081257132168796771975168, 514⟩, ⟨158456325028528675187087900672, 79228162514264337593543958528, 1024⟩, ⟨316912650057057350374175801344, 237684487542793012780631851008, 3072⟩, ⟨633825300114114700748351602688, 396140812571321687967719751680, 5120⟩, ⟨1267650600228229401496703205376, 713053462628379038341895553024, 9216⟩, ⟨2535301200456458802993406410752, 1267650600228229401496703205376, 17408⟩, ⟨5070602400912917605986812821504, 2535301200456458802993406418944, 32768⟩, ⟨10141204801825835211973625643008, 7605903601369376408980219232256, 98304⟩, ⟨20282409603651670423947251286016, 12676506002282294014967032053760, 163840⟩, ⟨40564819207303340847894502572032, 22817710804108129226940657696768, 294912⟩, ⟨81129638414606681695789005144064, 43100120407759799650887908982784, 557056⟩, ⟨162259276829213363391578010288128, 81129638414606681695789005144064, 1081344⟩, ⟨324518553658426726783156020576256, 162259276829213363391578010288256, 2097152⟩, ⟨649037107316853453566312041152512, 486777830487640090174734030864384, 6291456⟩, ⟨1298074214633706907132624082305024, 162259276829213363391578010292224, 2097152⟩, ⟨2596148429267413814265248164610048, 2109370598779773724090514133745664, 27262976⟩, ⟨5192296858534827628530496329220096, 2758407706096627177656826174898176, 35651584⟩, ⟨10384593717069655257060992658440192, 5354556135364040991922074339508224, 69206016⟩, ⟨64, 10384593717069655257060992658440192, 268435455⟩] [(true, 0), (true, 1), (true, 2), (true, 3), (true, 4), (true, 5), (true, 6), (true, 7), (true, 8), (true, 9), (true, 10), (true, 11), (true, 12), (true, 13), (true, 14), (true, 15), (true, 16), (true, 17), (true, 18), (true, 19), (true, 20), (true, 21), (true, 22), (true, 24), (false, 23), (false, 25), (true, 26), (true, 27)] (fun w' => codS.rd w' D 2 = some (ndC k) ∧ w'.cell? ⟨D, 6, none⟩ = some (.string (str [109])) ∧ w'.cell? ⟨D, 4, none⟩ = some (.int .i64 100) ∧ codS.rd w' gB (offB + k * 2) = some (ndC k) ∧ GvS W.heap.size w' b t6 (lineL x ++ mvC i k :: [])) (by kernel_rfl) rfl (by kernel_rfl) (by kernel_rfl) (by kernel_rfl) (hk8 _ _ fd ⟨d1, d2, d3, q7, HG8⟩) (fun hA hF => ?_)
        iterate 24
          refine wpAnyS_take (v := ?_) hA rfl (fun _ _ _ h => h) (Or.inl ⟨by rfl, ?_⟩) hF (fun hA => ?_)
          rotate_left
          · intro wS hSw; (try dsimp only at hSw); obtain ⟨s1, s2, s3, s4, s5⟩ := hSw; first | (apply Eq.trans; apply ex_ld_id; exact rfl; exact rfl; assumption; with_reducible rfl) | (apply Eq.trans; apply ex_ldR_at; exact rfl; exact rfl; assumption; with_reducible rfl) | (apply Eq.trans; apply ex_ldS_at; exact rfl; exact rfl; assumption; with_reducible rfl) | (go_simp; try with_reducible rfl)
          try simp only [List.getElem_toArray, List.getElem_cons_zero, List.getElem_cons_succ, Act.put, List.setIfInBounds_toArray, List.set_cons_zero, List.set_cons_succ]
        refine wpAnyS_one hA rfl (fun K' hK => ?_)
        rw [if_pos (by rfl)]
        go_simp
        go_at_call 12
        refine (gvRows_any hF.2.2.2.2 (by have := HL17.out; simp only [List.length_append, List.length_cons, List.length_nil]; omega)).mono ?_
        rintro e u1 ⟨A9, c9, rs9, ys9, rfl, o9, x9, _, p9, _, g9⟩
        replace hF := hk8 _ _ g9 hF
        refine hK.out _ _ hF (fun hA => ?_)
        clear hK K'
        as_aux_lemma =>
        rw [HRX.out] at p9
        have hu := mv_unlike hi1 (by omega) p9
        refine wpAnyS_one hA rfl (fun K' hK => ?_)
        rw [if_pos (by rfl)]
        go_simp
        go_at_call 19
        refine (r12sameX_any u1 A9 A4 c9 c4 rs9.length x rs9 rs4 ys9 (lineR x) rfl HL4.out (Sl.own o9) (Sl.own (own_new0 (own_new0 HR8.out fd) g9)) ⟨x9.1, fun i h h' => (x9.2 i h h').row.inn⟩ ⟨HX8.out.1, fun i h h' => (((HX8.out.2 i h h').row.inn).fr fd).fr g9⟩ (by have h5 := x9.1; have h6 := p9.length_eq; have h7 := putR_len (n := x) (i := i) (k := k); omega) (by have := HL4.out; omega) (fun i h h' => by rw [put_heads _ (p9.mem_iff.1 (List.getElem_mem h)), line_heads _ (List.getElem_mem h')])).mono ?_
        rintro e u2 ⟨rfl, g10⟩
        rw [hu]
        replace hF := hk8 _ _ g10 hF
        refine hK.out _ _ hF (fun hA => ?_)
        clear hK K'
        as_aux_lemma =>
        iterate 2
          refine wpAnyS_take (v := ?_) hA rfl (fun _ _ _ h => h) (Or.inl ⟨by rfl, ?_⟩) hF (fun hA => ?_)
          rotate_left
          · intro wS hSw; (try dsimp only at hSw); obtain ⟨s1, s2, s3, s4, s5⟩ := hSw; first | (apply Eq.trans; apply ex_ld_id; exact rfl; exact rfl; assumption; with_reducible rfl) | (apply Eq.trans; apply ex_ldR_at; exact rfl; exact rfl; assumption; with_reducible rfl) | (apply Eq.trans; apply ex_ldS_at; exact rfl; exact rfl; assumption; with_reducible rfl) | (go_simp; try with_reducible rfl)
          try simp only [List.getElem_toArray, List.getElem_cons_zero, List.getElem_cons_succ, Act.put, List.setIfInBounds_toArray, List.set_cons_zero, List.set_cons_succ]
        refine wpAnyS_end hA rfl ?_
        simp only [List.drop_succ_cons, List.drop_zero]
        have FF := ((HF8.out.step0 fd).step0 g9).step0 g10
        clear hF hk8
        go_wp2_with fail
        go_ret
        exact ⟨rfl, FF⟩
end Go.Proofs.YtdandpaeeodolaaGreat
