/- Contract: obj.Links of a commit; obj.Links. -/
import Derived.Test.YtejkfekpgbmdiaaGreatLinkD
import Derived.Test.YtejkfekpgbmdiaaGreatRegT
namespace Go.Proofs.YtejkfekpgbmdiaaGreat
open Go.RowKit
set_option linter.unusedVariables false
set_option linter.unusedSimpArgs false

theorem step_runV {P : Program} {w : World} {o : Oper} {a : Act} {K : Act → World → Prop} {Q : Exit → Act → World → Prop} (v : Value) (w' : World)
    (hr : (execOp a.eval o).run P w = .ok (.value v) w') (h : K (a.put o.dst v) w') : Oper.wp P o a w K Q := by
  unfold Oper.wp
  rw [hr]
  exact h
set_option maxRecDepth 100000 in
set_option maxHeartbeats 4000000 in
theorem links_ch (hsort : SortOK) (w : World) (A : Option Addr) (c n : Nat) (l : List UInt8) (hn : l.length = n) (hs : Sl w A (bv l)) (hcap : l.length ≤ c) (hb : l.length ≤ 140737488355328) (x : Chg) (h : rdCh l = some x) :
    Calls Tryz.prog 21 #[.slice A n c] w (LkTo w l) := by
  obtain ⟨hk, hl⟩ := kind_ch h
  have hrt : rightCh x = true := by
    have h0 := h
    rw [rdCh_eq] at h0
    unfold whole at h0
    split at h0
    · rename_i h1
      injection h0 with h0
      rw [← h0]; exact h1.2
    · cases h0
  simp only [rightCh, Bool.and_eq_true, decide_eq_true_eq, List.all_eq_true] at hrt
  have hp2 : x.Parents.length ≤ 2 := hrt.1.1.1.1.1.1.1.1.1
  have ho64 : x.Ops.length ≤ 64 := hrt.1.1.1.2
  have HK := Lib.hid hk
  have HL := Lib.hid hl
  have H := Lib.hid h
  clear hk hl h hrt
  go_enter Tryz.func21, Tryz.ntmps21
  go_upto_region 16 with (go_at_call 14; refine (kind_z _ A c n l hn hs hcap hb 3 3 HK.out rfl).mono ?_; rintro e w1 ⟨rfl, f1⟩)
  go_upto_region 17 with (go_at_call 25; refine (change_any _ A c n l hn (hs.fr0 f1) hcap hb).mono ?_; rintro e w2 ⟨r, rs, rfl, f2, hno, hso⟩; rw [H.out])
  obtain ⟨hin, hpn, hon, hrw⟩ := hso x H.out
  have f12 := f1.step0 f2
  have fA : Fr noB w2 (w2.alloc (codC.o r)) := (Fr.refl noB w2).alloc _
  obtain ⟨c0, c1', c2', c3, c4, c5', c6'⟩ := cgAt (Cod.rd_new' (C := codC) w2 r)
  have f3 := f12.step0 fA
  replace hin := hin.fr fA
  clear hno hso hrw fA f12 f2 f1 c1' c2' c5' c6'
  generalize w2.alloc (codC.o r) = Wc at c0 c3 c4 f3 hin ⊢
  generalize w2.heap.size = P at c0 c3 c4 ⊢
  obtain ⟨h1, h2, h3, h4, h5, h6, h7, h8, h9, h10, h11, h12⟩ := hin
  have HLN := Lib.hid h9.len
  have hrl : rs.length ≤ 64 := by have := h9.len; omega
  have HL2 := Lib.hid (show linkL l = x.Parents ++ [r.Tree] ++ x.Ops.map (·.Data) by rw [HL.out, h3])
  generalize x.Parents = ps at hp2 h5 h6 h10 hpn HL2
  have HPN := Lib.hid hpn
  have HON := Lib.hid hon
  rw [hpn] at c0
  rw [hon] at c3
  clear h1 h2 h3 h4 h5 h7 h10 h11 h12 hpn hon
  have mkF : ∀ u, Fr noB Wc u → (u.cell? ⟨P, 0, none⟩ = some (.slice r.PA ps.length r.pc) ∧ rdI u P 4 = some r.Tree) := fun u f => ⟨cell_fr0 c0 f, rdI_fr c4 (rdI_lt c4) f (by simp [noB])⟩
  have fd := (Fr.refl noB Wc).drew
  refine wp_region_T 7 8 [⟨144115188075855872, 1024, 0⟩, ⟨288230376151711744, 144115188075855872, 1⟩, ⟨576460752303423488, 288230376151711744, 2⟩, ⟨1152921504606846976, 1024, 0⟩, ⟨2305843009213693952, 1152921504606846976, 8⟩, ⟨4611686018427387904, 2305843009213693952, 16⟩, ⟨9223372036854775808, 5188146770730811392, 36⟩, ⟨8, 9223372036854775808, 127⟩] (.take 0 (.take 1 (.take 3 (.take 4 (.two 2 5 (.one 5 (.one 6 .done)) (.one 2 (.one 6 .done))))))) (fun u => u.cell? ⟨P, 0, none⟩ = some (.slice r.PA ps.length r.pc) ∧ rdI u P 4 = some r.Tree) (by kernel_rfl) rfl (by kernel_rfl) (by kernel_rfl) (by kernel_rfl) (mkF _ fd) (fun hA hF => ?_)
  refine wpAnyT_take (v := ?_) hA rfl (fun _ _ _ h => h) (Or.inl ⟨by rfl, ?_⟩) hF (fun hA => ?_)
  rotate_left
  · intro wS hSw; (try dsimp only at hSw); obtain ⟨s1, s2⟩ := hSw; first | (apply Eq.trans; apply ex_ld_id; exact rfl; exact rfl; assumption; with_reducible rfl) | (go_simp; try with_reducible rfl)
  try simp only [List.getElem_toArray, List.getElem_cons_zero, List.getElem_cons_succ, Act.put, List.setIfInBounds_toArray, List.set_cons_zero, List.set_cons_succ]
  refine wpAnyT_take (v := ?_) hA rfl (fun _ _ _ h => h) (Or.inl ⟨by rfl, ?_⟩) hF (fun hA => ?_)
  rotate_left
  · intro wS hSw; (try dsimp only at hSw); obtain ⟨s1, s2⟩ := hSw; first | (apply Eq.trans; apply ex_ld_id; exact rfl; exact rfl; assumption; with_reducible rfl) | (go_simp; try with_reducible rfl)
  try simp only [List.getElem_toArray, List.getElem_cons_zero, List.getElem_cons_succ, Act.put, List.setIfInBounds_toArray, List.set_cons_zero, List.set_cons_succ]
  refine wpAnyT_take (v := ?_) hA rfl (fun _ _ _ h => h) (Or.inl ⟨by rfl, ?_⟩) hF (fun hA => ?_)
  rotate_left
  · intro wS hSw; (try dsimp only at hSw); obtain ⟨s1, s2⟩ := hSw; first | (apply Eq.trans; apply ex_ld_id; exact rfl; exact rfl; assumption; with_reducible rfl) | (go_simp; try with_reducible rfl)
  try simp only [List.getElem_toArray, List.getElem_cons_zero, List.getElem_cons_succ, Act.put, List.setIfInBounds_toArray, List.set_cons_zero, List.set_cons_succ]
  refine wpAnyT_take (v := ?_) hA rfl (fun _ _ _ h => h) (Or.inl ⟨by rfl, ?_⟩) hF (fun hA => ?_)
  rotate_left
  · intro wS hSw; (try dsimp only at hSw); obtain ⟨s1, s2⟩ := hSw; first | (apply Eq.trans; apply ex_ld_id; exact rfl; exact rfl; assumption; with_reducible rfl) | (go_simp; try with_reducible rfl)
  try simp only [List.getElem_toArray, List.getElem_cons_zero, List.getElem_cons_succ, Act.put, List.setIfInBounds_toArray, List.set_cons_zero, List.set_cons_succ]
  refine wpAnyT_two (i := 2) (j := 5) hA rfl rfl (fun K' hK => ?_) (fun K' hK => ?_)
  · rw [if_pos (by rfl)]
    go_simp
    go_at_call 53
    refine (idclone_any _ r.PA r.pc ps ps.length rfl (h6.fr0 fd) (by omega)).mono ?_
    rintro e u1 ⟨A5, c5, rfl, ho5, hu1⟩
    have g1 : Fr noB Wc u1 := fd.step0 hu1
    replace ho5 : OwnC codI Wc u1 A5 c5 ps := own_base ho5 fd.size
    replace hF := mkF _ g1
    refine hK.out _ _ hF (fun hA => ?_)
    clear hK K'
    try simp only [List.getElem_toArray, List.getElem_cons_zero, List.getElem_cons_succ, Act.put, List.setIfInBounds_toArray, List.set_cons_zero, List.set_cons_succ]
    refine wpAnyT_one hA rfl (fun K' hK => ?_)
    refine step_runI rfl _ _ (ex_bsI_at (x := r.Tree) rfl rfl) ?_
    have fn : Fr noB u1 (u1.alloc (rowo [r.Tree])) := (Fr.refl noB u1).alloc _
    have sl : Sl (u1.alloc (rowo [r.Tree])) (some ⟨u1.heap.size, 0, none⟩) (codI.row [r.Tree]) := sl_new u1 [r.Tree]
    have g2 := g1.step0 fn
    replace ho5 := own_new0 ho5 fn
    replace hF := mkF _ g2
    refine hK.out _ _ hF (fun hA => ?_)
    clear hK K'
    try simp only [List.getElem_toArray, List.getElem_cons_zero, List.getElem_cons_succ, Act.put, List.setIfInBounds_toArray, List.set_cons_zero, List.set_cons_succ]
    refine wpAnyT_one hA rfl (fun K' hK => ?_)
    refine step_appC' etI Wc _ rfl _ _ rfl A5 ps.length c5 ps rfl rfl ho5 (some ⟨u1.heap.size, 0, none⟩) 1 1 [r.Tree] rfl sl rfl (by simp; omega) g2.size ?_
    intro A6 c6 w6 hc6 hm6 ho6 hg6 hA6
    obtain ⟨o6, ho6e⟩ : ∃ o : List ID, o = ps ++ [r.Tree] := ⟨_, rfl⟩
    rw [← ho6e] at ho6 ⊢
    have HO6 := Lib.hid ho6e
    have b6 : o6.length ≤ 3 := by rw [ho6e]; simp; omega
    have g6 := (g2).ownI ho5 hg6
    clear ho6e
    replace hF := mkF _ g6
    refine hK.out _ _ hF (fun hA => ?_)
    clear hK K'
    try simp only [List.getElem_toArray, List.getElem_cons_zero, List.getElem_cons_succ, Act.put, List.setIfInBounds_toArray, List.set_cons_zero, List.set_cons_succ]
    refine wpAnyT_end hA rfl ?_
    simp only [List.drop_succ_cons, List.drop_zero]
    clear hF hA hg6 hA6 hm6 hc6
    replace c3 := cell_fr0 c3 g6
    have h8' := h8
    generalize r.OA = OA at c3 h8' ⊢
    go_wp2_with fail
    go_loopg [3, 67] rs.length (fun gk v iv wr => LkR Wc rs.length 1 o6 (fun k => (x.Ops.take k).map (·.Data)) gk v iv wr)
    case atStart => exact ⟨0, A6, c6, o6, by first | rfl | simp, rfl, by omega, by omega, by simp, by omega, ho6, g6⟩
    case round =>
      obtain ⟨k, A20, c20, o20, rfl, rfl, rfl, hk, ho20e, hb20, ho20, hf20⟩ := hrel
      have HO20 := Lib.hid ho20e
      clear ho20e
      by_cases hlt : k < rs.length
      · have i1 : (k : Int) < (rs.length : Int) := by omega
        have i0 : (0 : Int) ≤ (k : Int) := by omega
        have hlt2 : k < x.Ops.length := by rw [← HLN.out]; exact hlt
        obtain ⟨g2, off2, rfl, hgg2⟩ := h8'.adC (by omega)
        have e1 : codO.rd wr g2 (off2 + k * 41) = some rs[k] := (h8'.fr0 hf20).rd k hlt
        have hin : OpIn Wc rs[k] x.Ops[k] := h9.at_ k hlt hlt2
        have ed : x.Ops[k].Data = rs[k].Data := by rw [hin.eq]; rfl
        have ht : (x.Ops.take (k + 1)).map (·.Data) = (x.Ops.take k).map (·.Data) ++ [rs[k].Data] := by rw [List.take_succ_eq_append_getElem hlt2, List.map_append, ← ed]; rfl
        clear hin ed
        generalize rs[k] = q at e1 ht
        have HT2 := Lib.hid ht
        have b20 : o20.length ≤ 3000000 := by omega
        have HJL := Lib.hid hlt
        have HB20 := Lib.hid hb20
        have fA : Fr noB wr (wr.alloc (codO.o q)) := (Fr.refl noB wr).alloc _
        have hx : codO.rd (wr.alloc (codO.o q)) wr.heap.size 0 = some q := Cod.rd_new' wr q
        clear ht hlt hlt2 hb20
        go_upto_region 21 with fail
        replace hf20 := hf20.step0 fA
        replace ho20 := own_new0 ho20 fA
        clear fA e1
        generalize wr.alloc (codO.o q) = W2 at hx ho20 hf20 ⊢
        generalize wr.heap.size = N2 at hx ⊢
        have k5 := (opAt hx).data
        have fr : Fr noB W2 (W2.alloc (rowo [q.Data])) := (Fr.refl noB W2).alloc _
        have sl : Sl (W2.alloc (rowo [q.Data])) (some ⟨W2.heap.size, 0, none⟩) (codI.row [q.Data]) := sl_new W2 [q.Data]
        replace hf20 := hf20.step0 fr
        replace ho20 := own_new0 ho20 fr
        go_wp2_with (at_builtin; refine wpList_appC' etI Wc _ rfl _ _ rfl A20 o20.length c20 o20 rfl rfl ho20 (some ⟨W2.heap.size, 0, none⟩) 1 1 [q.Data] rfl sl rfl (by simp; omega) hf20.size ?_; intro A21 c21 w21 hc21 hm21 ho21 hg21 hA21; obtain ⟨o21, ho21e⟩ : ∃ r' : List ID, r' = o20 ++ [q.Data] := ⟨_, rfl⟩; rw [← ho21e] at ho21 ⊢; have HO21 := Lib.hid ho21e; clear ho21e)
        have hf21 := hf20.ownI ho20 hg21
        have hjl := HJL.out
        go_roundg (rs.length - (k + 1))
        case measure => omega
        case rel =>
          exact ⟨k + 1, A21, c21, o21, rfl, by simp, rfl, by omega, by rw [HO21.out, HO20.out]; simp only; rw [HT2.out, List.append_assoc], by have := HB20.out; rw [HO21.out]; simp; omega, ho21, hf21⟩
      · have hkn : k = rs.length := by omega
        subst hkn
        have i1 : ¬ (rs.length : Int) < (rs.length : Int) := by omega
        have HRAW : Hid (linkL l = o20) := Lib.hid (by
          have h1 := HO20.out
          simp only [HLN.out, List.take_length] at h1
          rw [HL2.out, h1, HO6.out])
        have hrb : o20.length ≤ 100000000 := by omega
        have g5 : Fr noB w wr := f3.step0 hf20
        have ho5 : OwnC codI w wr A20 c20 o20 := own_base ho20 f3.size
        clear hb20 ho20 HO20 hlt hk ho6
        generalize o20 = raw at HRAW hrb ho5 ⊢
        generalize A20 = A5 at ho5 ⊢
        generalize c20 = c5 at ho5 ⊢
        have G5 := Lib.hid g5
        go_upto_region 27 with (go_at_call 54; refine (hsort w _ A5 c5 _ raw rfl ho5 (by omega)).mono ?_; rintro e w6 ⟨rfl, ho6, f6⟩)
        have g6 : Fr noB w w6 := G5.out.step f6 (fun b hb => .inl (own_lt ho5 b hb).1)
        have hlen := sortI_len raw
        have hcap6 : (sortI raw).length ≤ c5 := own_cap ho6
        have hR6 : sortI raw = [] ∨ ∃ g, A5 = some ⟨g, 0, none⟩ ∧ RwI w6 g (sortI raw) := by
          by_cases h0 : sortI raw = []
          · exact .inl h0
          · exact .inr (RwI.own ho6 h0)
        have hlt6 : ∀ b, A5.map (·.block) = some b → w.heap.size ≤ b := fun b hb => (own_lt ho6 b hb).1
        have HCM2 : Hid (Calls Tryz.prog 56 #[.slice A5 raw.length c5] w6 fun e w' => e = .returned (.slice A5 (cpt (sortI raw)).length c5) ∧ Sl w' A5 (idc (cpt (sortI raw))) ∧ Fr (fun b => A5.map (·.block) = some b) w6 w') :=
          Lib.hid ((compact_any w6 A5 c5 raw.length (sortI raw) hlen hR6 hcap6 (by rw [hlen]; omega)).mono fun e w' h => h)
        have HLK := Lib.hid (show linksO l = dropZ (cpt (sortI raw)) by unfold linksO; rw [HRAW.out])
        have hcl : (cpt (sortI raw)).length ≤ c5 := Nat.le_trans (cptN_len _ _) hcap6
        clear hR6 hcap6 hlen
        generalize cpt (sortI raw) = cp at HLK hcl HCM2
        go_upto_region 28 with (go_at_call 56; refine HCM2.out.mono ?_; rintro e w7 ⟨rfl, hsl7, f7⟩)
        have g7 : Fr noB w w7 := g6.step f7 (fun b hb => .inl (hlt6 b hb))
        clear HCM2 f7 f6 hlt6 ho6
        cases cp with
        | nil =>
          have HLK2 := Lib.hid (show linksO l = [] by rw [HLK.out]; rfl)
          clear hcl
          simp only [List.length_nil]
          go_wp2_with fail
          go_ret
          unfold LkTo
          rw [HLK2.out]
          exact ⟨A5, c5, rfl, Sl.nil _ _, g7, Nat.zero_le _⟩
        | cons y t =>
          obtain ⟨g, off, rfl⟩ := hsl7.ad (by simp)
          have r1 : rdI w7 g off = some y := by
            have h1 := hsl7.id 0 (by simp)
            rw [Nat.zero_mul, Nat.add_zero] at h1
            exact h1
          have HT : Hid (t.length + 1 ≤ c5) := Lib.hid (by simpa using hcl)
          have hsl8 : Sl w7 (some ⟨g, off + 32, none⟩) (idc t) := by
            intro hne
            obtain ⟨g', off', e, hg, hc⟩ := hsl7 (by intro h0; have := idc_length (y :: t); rw [h0] at this; simp at this)
            injection e with e
            injection e with e1 e2
            subst e1; subst e2
            refine ⟨g, off + 32, rfl, hg, fun j v hv => ?_⟩
            have := hc (32 + j) v (by
              have e3 : idc (y :: t) = idc [y] ++ idc t := by rw [← idc_app]; rfl
              rw [e3, List.getElem?_append_right (by rw [idc_length]; simp), idc_length]
              simpa using hv)
            rwa [← Nat.add_assoc] at this
          have hm : ∃ m, m = (y :: t).length := ⟨_, rfl⟩
          obtain ⟨m, hm⟩ := hm
          rw [← hm]
          have hm1 : m = t.length + 1 := by rw [hm]; rfl
          have i1 : (0 : Int) < (m : Int) := by omega
          have i2 : (1 : Int) ≤ (m : Int) := by omega
          have i3 : m ≤ c5 := by have := HT.out; omega
          have i4 : (m : Int) ≤ (c5 : Int) := by omega
          have i5 : (1 : Int) ≤ (c5 : Int) := by omega
          have HM := Lib.hid hm1
          have HSL := Lib.hid hsl7
          clear hm hm1 hcl hsl7
          by_cases hy : y = zID
          · have HLK2 := Lib.hid (show linksO l = t by rw [HLK.out, dropZ_cons, if_pos hy])
            go_wp2_with fail
            all_goals
              go_ret
              unfold LkTo
              rw [HLK2.out]
              have h1 := HM.out
              have h2 := HT.out
              have h3 : m - 1 = t.length := by omega
              first
              | exact ⟨some ⟨g, off + 32, none⟩, c5 - 1, by rw [← h3]; rfl, hsl8, g7, by omega⟩
              | (have h4 : t.length = 0 := by omega
                 obtain rfl : t = [] := List.length_eq_zero_iff.1 h4
                 exact ⟨some ⟨g, off, none⟩, 0, by rw [← h3]; rfl, Sl.nil _ _, g7, by simp⟩)
          · have HLK2 := Lib.hid (show linksO l = y :: t by rw [HLK.out, dropZ_cons, if_neg hy])
            go_wp2_with fail
            go_ret
            unfold LkTo
            rw [HLK2.out]
            have h1 := HM.out
            have h2 := HT.out
            have h3 : m = (y :: t).length := by rw [List.length_cons]; exact h1
            exact ⟨some ⟨g, off, none⟩, c5, by rw [← h3]; rfl, HSL.out, g7, by rw [← h3]; exact i3⟩
  · rw [if_pos (by rfl)]
    refine step_runV _ _ (ex_bsI_at (x := r.Tree) rfl rfl) ?_
    have fn : Fr noB Wc.drew (Wc.drew.alloc (rowo [r.Tree])) := (Fr.refl noB Wc.drew).alloc _
    have sl : Sl (Wc.drew.alloc (rowo [r.Tree])) (some ⟨Wc.drew.heap.size, 0, none⟩) (codI.row [r.Tree]) := sl_new Wc.drew [r.Tree]
    have g1 : Fr noB Wc (Wc.drew.alloc (rowo [r.Tree])) := fd.step0 fn
    generalize Wc.drew.alloc (rowo [r.Tree]) = u1 at sl g1 fn hK ⊢
    generalize Wc.drew.heap.size = N0 at sl hK ⊢
    replace hF := mkF _ g1
    refine hK.out _ _ hF (fun hA => ?_)
    clear hK K'
    try simp only [List.getElem_toArray, List.getElem_cons_zero, List.getElem_cons_succ, Act.put, List.setIfInBounds_toArray, List.set_cons_zero, List.set_cons_succ]
    refine wpAnyT_one hA rfl (fun K' hK => ?_)
    go_simp
    go_at_call 53
    refine (idclone_any _ r.PA r.pc ps ps.length rfl (h6.fr0 g1) (by omega)).mono ?_
    rintro e u2 ⟨A5, c5, rfl, ho5, hu2⟩
    have g2 : Fr noB Wc u2 := g1.step0 hu2
    replace ho5 : OwnC codI Wc u2 A5 c5 ps := own_base ho5 g1.size
    replace sl := sl.fr0 hu2
    replace hF := mkF _ g2
    refine hK.out _ _ hF (fun hA => ?_)
    clear hK K'
    try simp only [List.getElem_toArray, List.getElem_cons_zero, List.getElem_cons_succ, Act.put, List.setIfInBounds_toArray, List.set_cons_zero, List.set_cons_succ]
    refine wpAnyT_one hA rfl (fun K' hK => ?_)
    refine step_appC' etI Wc _ rfl _ _ rfl A5 ps.length c5 ps rfl rfl ho5 (some ⟨N0, 0, none⟩) 1 1 [r.Tree] rfl sl rfl (by simp; omega) g2.size ?_
    intro A6 c6 w6 hc6 hm6 ho6 hg6 hA6
    obtain ⟨o6, ho6e⟩ : ∃ o : List ID, o = ps ++ [r.Tree] := ⟨_, rfl⟩
    rw [← ho6e] at ho6 ⊢
    have HO6 := Lib.hid ho6e
    have b6 : o6.length ≤ 3 := by rw [ho6e]; simp; omega
    have g6 := (g2).ownI ho5 hg6
    clear ho6e
    replace hF := mkF _ g6
    refine hK.out _ _ hF (fun hA => ?_)
    clear hK K'
    try simp only [List.getElem_toArray, List.getElem_cons_zero, List.getElem_cons_succ, Act.put, List.setIfInBounds_toArray, List.set_cons_zero, List.set_cons_succ]
    refine wpAnyT_end hA rfl ?_
    simp only [List.drop_succ_cons, List.drop_zero]
    clear hF hA hg6 hA6 hm6 hc6
    replace c3 := cell_fr0 c3 g6
    have h8' := h8
    generalize r.OA = OA at c3 h8' ⊢
    go_wp2_with fail
    go_loopg [3, 67] rs.length (fun gk v iv wr => LkR Wc rs.length 1 o6 (fun k => (x.Ops.take k).map (·.Data)) gk v iv wr)
    case atStart => exact ⟨0, A6, c6, o6, by first | rfl | simp, rfl, by omega, by omega, by simp, by omega, ho6, g6⟩
    case round =>
      obtain ⟨k, A20, c20, o20, rfl, rfl, rfl, hk, ho20e, hb20, ho20, hf20⟩ := hrel
      have HO20 := Lib.hid ho20e
      clear ho20e
      by_cases hlt : k < rs.length
      · have i1 : (k : Int) < (rs.length : Int) := by omega
        have i0 : (0 : Int) ≤ (k : Int) := by omega
        have hlt2 : k < x.Ops.length := by rw [← HLN.out]; exact hlt
        obtain ⟨g2, off2, rfl, hgg2⟩ := h8'.adC (by omega)
        have e1 : codO.rd wr g2 (off2 + k * 41) = some rs[k] := (h8'.fr0 hf20).rd k hlt
        have hin : OpIn Wc rs[k] x.Ops[k] := h9.at_ k hlt hlt2
        have ed : x.Ops[k].Data = rs[k].Data := by rw [hin.eq]; rfl
        have ht : (x.Ops.take (k + 1)).map (·.Data) = (x.Ops.take k).map (·.Data) ++ [rs[k].Data] := by rw [List.take_succ_eq_append_getElem hlt2, List.map_append, ← ed]; rfl
        clear hin ed
        generalize rs[k] = q at e1 ht
        have HT2 := Lib.hid ht
        have b20 : o20.length ≤ 3000000 := by omega
        have HJL := Lib.hid hlt
        have HB20 := Lib.hid hb20
        have fA : Fr noB wr (wr.alloc (codO.o q)) := (Fr.refl noB wr).alloc _
        have hx : codO.rd (wr.alloc (codO.o q)) wr.heap.size 0 = some q := Cod.rd_new' wr q
        clear ht hlt hlt2 hb20
        go_upto_region 21 with fail
        replace hf20 := hf20.step0 fA
        replace ho20 := own_new0 ho20 fA
        clear fA e1
        generalize wr.alloc (codO.o q) = W2 at hx ho20 hf20 ⊢
        generalize wr.heap.size = N2 at hx ⊢
        have k5 := (opAt hx).data
        have fr : Fr noB W2 (W2.alloc (rowo [q.Data])) := (Fr.refl noB W2).alloc _
        have sl : Sl (W2.alloc (rowo [q.Data])) (some ⟨W2.heap.size, 0, none⟩) (codI.row [q.Data]) := sl_new W2 [q.Data]
        replace hf20 := hf20.step0 fr
        replace ho20 := own_new0 ho20 fr
        go_wp2_with (at_builtin; refine wpList_appC' etI Wc _ rfl _ _ rfl A20 o20.length c20 o20 rfl rfl ho20 (some ⟨W2.heap.size, 0, none⟩) 1 1 [q.Data] rfl sl rfl (by simp; omega) hf20.size ?_; intro A21 c21 w21 hc21 hm21 ho21 hg21 hA21; obtain ⟨o21, ho21e⟩ : ∃ r' : List ID, r' = o20 ++ [q.Data] := ⟨_, rfl⟩; rw [← ho21e] at ho21 ⊢; have HO21 := Lib.hid ho21e; clear ho21e)
        have hf21 := hf20.ownI ho20 hg21
        have hjl := HJL.out
        go_roundg (rs.length - (k + 1))
        case measure => omega
        case rel =>
          exact ⟨k + 1, A21, c21, o21, rfl, by simp, rfl, by omega, by rw [HO21.out, HO20.out]; simp only; rw [HT2.out, List.append_assoc], by have := HB20.out; rw [HO21.out]; simp; omega, ho21, hf21⟩
      · have hkn : k = rs.length := by omega
        subst hkn
        have i1 : ¬ (rs.length : Int) < (rs.length : Int) := by omega
        have HRAW : Hid (linkL l = o20) := Lib.hid (by
          have h1 := HO20.out
          simp only [HLN.out, List.take_length] at h1
          rw [HL2.out, h1, HO6.out])
        have hrb : o20.length ≤ 100000000 := by omega
        have g5 : Fr noB w wr := f3.step0 hf20
        have ho5 : OwnC codI w wr A20 c20 o20 := own_base ho20 f3.size
        clear hb20 ho20 HO20 hlt hk ho6
        generalize o20 = raw at HRAW hrb ho5 ⊢
        generalize A20 = A5 at ho5 ⊢
        generalize c20 = c5 at ho5 ⊢
        have G5 := Lib.hid g5
        go_upto_region 27 with (go_at_call 54; refine (hsort w _ A5 c5 _ raw rfl ho5 (by omega)).mono ?_; rintro e w6 ⟨rfl, ho6, f6⟩)
        have g6 : Fr noB w w6 := G5.out.step f6 (fun b hb => .inl (own_lt ho5 b hb).1)
        have hlen := sortI_len raw
        have hcap6 : (sortI raw).length ≤ c5 := own_cap ho6
        have hR6 : sortI raw = [] ∨ ∃ g, A5 = some ⟨g, 0, none⟩ ∧ RwI w6 g (sortI raw) := by
          by_cases h0 : sortI raw = []
          · exact .inl h0
          · exact .inr (RwI.own ho6 h0)
        have hlt6 : ∀ b, A5.map (·.block) = some b → w.heap.size ≤ b := fun b hb => (own_lt ho6 b hb).1
        have HCM2 : Hid (Calls Tryz.prog 56 #[.slice A5 raw.length c5] w6 fun e w' => e = .returned (.slice A5 (cpt (sortI raw)).length c5) ∧ Sl w' A5 (idc (cpt (sortI raw))) ∧ Fr (fun b => A5.map (·.block) = some b) w6 w') :=
          Lib.hid ((compact_any w6 A5 c5 raw.length (sortI raw) hlen hR6 hcap6 (by rw [hlen]; omega)).mono fun e w' h => h)
        have HLK := Lib.hid (show linksO l = dropZ (cpt (sortI raw)) by unfold linksO; rw [HRAW.out])
        have hcl : (cpt (sortI raw)).length ≤ c5 := Nat.le_trans (cptN_len _ _) hcap6
        clear hR6 hcap6 hlen
        generalize cpt (sortI raw) = cp at HLK hcl HCM2
        go_upto_region 28 with (go_at_call 56; refine HCM2.out.mono ?_; rintro e w7 ⟨rfl, hsl7, f7⟩)
        have g7 : Fr noB w w7 := g6.step f7 (fun b hb => .inl (hlt6 b hb))
        clear HCM2 f7 f6 hlt6 ho6
        cases cp with
        | nil =>
          have HLK2 := Lib.hid (show linksO l = [] by rw [HLK.out]; rfl)
          clear hcl
          simp only [List.length_nil]
          go_wp2_with fail
          go_ret
          unfold LkTo
          rw [HLK2.out]
          exact ⟨A5, c5, rfl, Sl.nil _ _, g7, Nat.zero_le _⟩
        | cons y t =>
          obtain ⟨g, off, rfl⟩ := hsl7.ad (by simp)
          have r1 : rdI w7 g off = some y := by
            have h1 := hsl7.id 0 (by simp)
            rw [Nat.zero_mul, Nat.add_zero] at h1
            exact h1
          have HT : Hid (t.length + 1 ≤ c5) := Lib.hid (by simpa using hcl)
          have hsl8 : Sl w7 (some ⟨g, off + 32, none⟩) (idc t) := by
            intro hne
            obtain ⟨g', off', e, hg, hc⟩ := hsl7 (by intro h0; have := idc_length (y :: t); rw [h0] at this; simp at this)
            injection e with e
            injection e with e1 e2
            subst e1; subst e2
            refine ⟨g, off + 32, rfl, hg, fun j v hv => ?_⟩
            have := hc (32 + j) v (by
              have e3 : idc (y :: t) = idc [y] ++ idc t := by rw [← idc_app]; rfl
              rw [e3, List.getElem?_append_right (by rw [idc_length]; simp), idc_length]
              simpa using hv)
            rwa [← Nat.add_assoc] at this
          have hm : ∃ m, m = (y :: t).length := ⟨_, rfl⟩
          obtain ⟨m, hm⟩ := hm
          rw [← hm]
          have hm1 : m = t.length + 1 := by rw [hm]; rfl
          have i1 : (0 : Int) < (m : Int) := by omega
          have i2 : (1 : Int) ≤ (m : Int) := by omega
          have i3 : m ≤ c5 := by have := HT.out; omega
          have i4 : (m : Int) ≤ (c5 : Int) := by omega
          have i5 : (1 : Int) ≤ (c5 : Int) := by omega
          have HM := Lib.hid hm1
          have HSL := Lib.hid hsl7
          clear hm hm1 hcl hsl7
          by_cases hy : y = zID
          · have HLK2 := Lib.hid (show linksO l = t by rw [HLK.out, dropZ_cons, if_pos hy])
            go_wp2_with fail
            all_goals
              go_ret
              unfold LkTo
              rw [HLK2.out]
              have h1 := HM.out
              have h2 := HT.out
              have h3 : m - 1 = t.length := by omega
              first
              | exact ⟨some ⟨g, off + 32, none⟩, c5 - 1, by rw [← h3]; rfl, hsl8, g7, by omega⟩
              | (have h4 : t.length = 0 := by omega
                 obtain rfl : t = [] := List.length_eq_zero_iff.1 h4
                 exact ⟨some ⟨g, off, none⟩, 0, by rw [← h3]; rfl, Sl.nil _ _, g7, by simp⟩)
          · have HLK2 := Lib.hid (show linksO l = y :: t by rw [HLK.out, dropZ_cons, if_neg hy])
            go_wp2_with fail
            go_ret
            unfold LkTo
            rw [HLK2.out]
            have h1 := HM.out
            have h2 := HT.out
            have h3 : m = (y :: t).length := by rw [List.length_cons]; exact h1
            exact ⟨some ⟨g, off, none⟩, c5, by rw [← h3]; rfl, HSL.out, g7, by rw [← h3]; exact i3⟩
theorem links_any (hsort : SortOK) (w : World) (A : Option Addr) (c n : Nat) (l : List UInt8) (hn : l.length = n) (hs : Sl w A (bv l)) (hcap : l.length ≤ c) (hb : l.length ≤ 140737488355328) : Calls Tryz.prog 21 #[.slice A n c] w (LkTo w l) := by
  cases h2 : rdDr l with
  | some x => exact links_dr hsort w A c n l hn hs hcap hb x h2
  | none =>
    cases h3 : rdCh l with
    | some x => exact links_ch hsort w A c n l hn hs hcap hb x h3
    | none =>
      cases h4 : rdLb l with
      | some x => exact links_lb hsort w A c n l hn hs hcap hb x h4
      | none => exact links_no hsort w A c n l hn hs hcap hb h2 h3 h4
end Go.Proofs.YtejkfekpgbmdiaaGreat
