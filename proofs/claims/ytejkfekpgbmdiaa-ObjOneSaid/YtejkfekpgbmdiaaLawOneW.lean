/- Walk of the law ObjOne (under way). -/
import Derived.Test.YtejkfekpgbmdiaaLawOne
namespace Go.Proofs.Ytejkfekpgbmdiaa
open Go.RowKit
set_option linter.unusedVariables false
set_option linter.unusedSimpArgs false

set_option maxRecDepth 100000 in
set_option maxHeartbeats 4000000 in
theorem oneL_any (w : World) (r : CgW) (rs : List OpW) (c : Chg) (hin : CgIn w r rs c) (lb : Lbl) (h1 : lb.Name.length ≤ 140737488355328) (h2 : lb.Msg.length ≤ 140737488355328) (a : Int) :
    Calls Try.prog 3 #[.agg (codC.A r), .agg (codL.A lb), .int .i64 a] w (Gives w (.bool true)) := by
  have f0 : Fr noB w ((w.alloc (.cells (codC.A r) 27)).alloc (.cells (codL.A lb) 29)) := ((Fr.refl noB w).alloc _).alloc _
  have hz : (w.alloc (.cells (codC.A r) 27)).heap.size = w.heap.size + 1 := by simp
  have q1 := Cod.rd_fr0 (Cod.rd_new (C := codC) w 27 r) ((Fr.refl noB (w.alloc (.cells (codC.A r) 27))).alloc (.cells (codL.A lb) 29))
  have q2 := Cod.rd_new (C := codL) (w.alloc (.cells (codC.A r) 27)) 29 lb
  rw [hz] at q2
  replace hin := hin.fr f0
  clear hz
  go_enter Try.func3, Try.ntmps3
  go_upto_region 1 with fail
  generalize (w.alloc (.cells (codC.A r) 27)).alloc (.cells (codL.A lb) 29) = W0 at f0 q1 q2 hin ⊢
  generalize w.heap.size = P at q1 q2 ⊢
  go_upto_region 3 with (go_at_call 5; refine (alive_any _).mono ?_; rintro e w1 ⟨rfl, f1⟩)
  replace q1 := Cod.rd_fr0 q1 f1
  replace q2 := Cod.rd_fr0 q2 f1
  replace hin := hin.fr f1
  replace f0 := f0.step0 f1
  clear f1
  have hN1 : rightCh c = false → putCh c = none := fun h => by unfold putCh; rw [h]; rfl
  have hN2 : rightLb lb = false → putLb lb = none := fun h => by unfold putLb; rw [h]; rfl
  obtain ⟨q, eq, hq⟩ := and_maskB a 1048575 (Nat.le_refl _)
  have eq' : bits BinOp.and IntKind.i64 a 1048575 = (q : Int) := eq
  by_cases hrc : rightCh c = true
  · have CN := Lib.hid (And.intro (chN hrc) (chB_len hrc))
    have CP := Lib.hid (show putCh c = some (chB c) by unfold putCh; rw [if_pos hrc])
    generalize chB c = bC at CN CP
    clear hrc hN1
    go_upto_region 4 with (go_at_call 6; refine (putChange_any _ r rs c hin).mono ?_; intro e w2 hp; obtain ⟨A2, c2, rfl, hsC, f2, hc2, _⟩ := hp.some (b := bC) (n := bC.length) CP.out rfl; clear hp)
    replace q2 := Cod.rd_fr0 q2 f2
    replace f0 := f0.step0 f2
    by_cases hlb : rightLb lb = true
    · have LN := Lib.hid (And.intro (lbN hlb) (lbB_len hlb))
      have LP := Lib.hid (show putLb lb = some (lbB lb) by unfold putLb; rw [if_pos hlb])
      generalize lbB lb = bL at LN LP
      clear hlb hN2
      go_upto_region 5 with (go_at_call 7; refine (putLabel_any _ lb h1 h2).mono ?_; intro e w4 hp; obtain ⟨A4, c4, rfl, hs4, f4, hc4, _⟩ := hp.some (b := bL) (n := bL.length) LP.out rfl; clear hp)
      replace hsC := hsC.fr0 f4
      have hmC : bC.length ≠ 0 := by have := CN.out.2.1; omega
      have hmC0 : ((bC.length : Int) == 0) = false := by rw [beq_eq_false_iff_ne]; omega
      have hltC : q % bC.length < bC.length := Nat.mod_lt _ (by omega)
      have htC : (bits BinOp.and IntKind.i64 a 1048575).tmod (bC.length : Int) = ((q % bC.length : Nat) : Int) := by rw [eq']; rfl
      have EQ' := Lib.hid eq'
      generalize hii : q % bC.length = j at hltC htC
      have y1 : (0 : Int) ≤ (j : Int) := by omega
      have y2 : (j : Int) ≤ (c2 : Int) := by omega
      have y3 : (j : Int) ≤ (bC.length : Int) := by omega
      have hpreC : (bC.take j).length = j := by rw [List.length_take]; omega
      have HPREC := Lib.hid hpreC
      have HLTC := Lib.hid hltC
      clear hpreC hii hmC eq eq'
      go_upto_region 7 with fail
      clear htC hmC0 y1
      have hs2 := hsC
      have tok1 : True := trivial
      go_upto_region 9 with (first
        | (have tt := tok1; go_at_call 8; refine (kind_z _ A2 c2 j (bC.take j) HPREC.out (Sl.takeB hs2) (by rw [HPREC.out]; have := HLTC.out; omega) (by rw [HPREC.out]; have := HLTC.out; have := CN.out.2.2; omega) 0 0 (CN.out.1.cut j HLTC.out) rfl).mono ?_; rintro e w5 ⟨rfl, f5⟩; replace hs2 := hs2.fr0 f5; clear tt tok1; have tok2 : True := trivial; have hE := World.ownsRow_lit (base := w5.heap.size) (e := 5) (size := 1) w5 #[] 0 (Nat.le_refl _) (by simp [maxLen]) rfl; have fE : Fr noB w5 (w5.alloc (.cells #[] 5)) := (Fr.refl noB w5).alloc _; have hsE := hs2.fr0 fE)
        | (have tt := tok2; at_builtin; refine wpList_appG _ etBytes (by rfl) _ _ rfl w5.heap.size _ 0 [] rfl hE A2 bC.length c2 bC rfl hsE rfl (by have := CN.out.2.2; simp; omega) (by simp) ?_; intro A6 c6 w6 hc6 hm6 ho6 hg6; clear tt tok2; have tok3 : True := trivial; obtain ⟨l6, hl6⟩ : ∃ z : List UInt8, z = [] ++ bC := ⟨_, rfl⟩; rw [← hl6] at ho6 ⊢; have HL6 := Lib.hid hl6; clear hl6; have f6 := fE.stepG (r := some w5.heap.size) hg6 (by intro g hg; injection hg with hg; omega); have ho0 := own_lit1 w6 0 0 rfl; have fZ : Fr noB w6 (w6.alloc (.cells #[.int .u8 0] 5)) := (Fr.refl noB w6).alloc _; have ho6' := own_new0 ho6 fZ; have b6 : l6.length ≤ 1000000 := by rw [HL6.out]; simpa using CN.out.2.2)
        | (have tt := tok3; at_builtin; refine wpList_appG _ etBytes (by rfl) _ _ rfl w5.heap.size (.slice A6 l6.length c6) l6.length l6 rfl ho6' (some ⟨w6.heap.size, 0, none⟩) 1 1 [0] rfl (Sl.own ho0) rfl (by simp; omega) (Nat.le_trans f6.size fZ.size) ?_; intro A7 c7 w7 hc7 hm7 ho7 hg7; clear tt tok3; have tok4 : True := trivial; obtain ⟨l7, hl7⟩ : ∃ z : List UInt8, z = l6 ++ [0] := ⟨_, rfl⟩; rw [← hl7] at ho7 ⊢; have HL7 := Lib.hid hl7; clear hl7; have f7 := (f6.step0 fZ).step (Fr.ofGrown (M := fun b => (Value.slice A6 l6.length c6).ownBlock = some b) hg7 (fun g hg => hg)) (fun b hb => .inl (ho6'.lt b hb).1))
        | (have tt := tok4; go_at_call 8; refine (kind_z _ A7 c7 l7.length l7 rfl (Sl.own ho7) (own_cap ho7) (by rw [HL7.out]; simp; omega) 0 0 (by rw [HL7.out, HL6.out]; exact CN.out.1.more) rfl).mono ?_; rintro e w8 ⟨rfl, f8⟩))
      have fC := (f5.step0 f7).step0 f8
      have hs8 := hsC.fr0 fC
      clear f5 f6 f7 f8 fE fZ hE hsE ho0 ho6 ho6' ho7 hg6 hg7 tok4 hs2
      go_upto_region 10 with (go_at_call 9; refine (label_no _ A2 c2 _ bC rfl hs8 hc2 (by have := CN.out.2.2; omega) CN.out.1.lb).mono ?_; rintro e w9 ⟨rfl, f9⟩)
      have fL : Fr noB w9 (w9.alloc (codL.o zLbl)) := (Fr.refl noB w9).alloc _
      replace fC := (fC.step0 f9).step0 fL
      replace hs8 := hsC.fr0 fC
      generalize w9.alloc (codL.o zLbl) = w10 at fC hs8 ⊢
      go_upto_region 14 with (first
        | (go_at_call 10; refine (dir_no _ A2 c2 _ bC rfl hs8 hc2 (by have := CN.out.2.2; omega) CN.out.1.dr).mono ?_; rintro e w11 ⟨B1, m1, d1, rfl, f11⟩; replace fC := fC.step0 f11; replace hs8 := hsC.fr0 fC)
        | (go_at_call 11; refine (blob_no _ A2 c2 _ bC rfl hs8 hc2 (by have := CN.out.2.2; omega) CN.out.1.bl).mono ?_; rintro e w12 ⟨B2, d2, rfl, f12⟩; replace fC := fC.step0 f12))
      replace hs4 := hs4.fr0 fC
      replace f4 := f4.step0 fC
      have eq' := EQ'.out
      clear hq fC hs8 hsC
      have hm : bL.length ≠ 0 := by have := LN.out.2.1; omega
      have hm0 : ((bL.length : Int) == 0) = false := by rw [beq_eq_false_iff_ne]; omega
      have hlt : q % bL.length < bL.length := Nat.mod_lt _ (by omega)
      have ht : (bits BinOp.and IntKind.i64 a 1048575).tmod (bL.length : Int) = ((q % bL.length : Nat) : Int) := by rw [eq']; rfl
      generalize hii : q % bL.length = i at hlt ht
      have x1 : (0 : Int) ≤ (i : Int) := by omega
      have x2 : (i : Int) ≤ (c4 : Int) := by omega
      have x3 : (i : Int) ≤ (bL.length : Int) := by omega
      have hpre : (bL.take i).length = i := by rw [List.length_take]; omega
      have HPRE := Lib.hid hpre
      have HLT := Lib.hid hlt
      clear hpre hii hm eq'
      go_upto_region 16 with fail
      have f4' := f0.step0 f4
      clear f0 f4 f2 ht hm0
      have tok1 : True := trivial
      go_wp2_with (first
        | (have tt := tok1; go_at_call 8; refine (kind_z _ A4 c4 i (bL.take i) HPRE.out (Sl.takeB hs4) (by rw [HPRE.out]; have := HLT.out; omega) (by rw [HPRE.out]; have := HLT.out; have := LN.out.2.2; omega) 0 0 (LN.out.1.cut i HLT.out) rfl).mono ?_; rintro e w5 ⟨rfl, f5⟩; replace hs4 := hs4.fr0 f5; clear tt tok1; have tok2 : True := trivial; have hE := World.ownsRow_lit (base := w5.heap.size) (e := 5) (size := 1) w5 #[] 0 (Nat.le_refl _) (by simp [maxLen]) rfl; have fE : Fr noB w5 (w5.alloc (.cells #[] 5)) := (Fr.refl noB w5).alloc _; have hsE := hs4.fr0 fE)
        | (have tt := tok2; at_builtin; refine wpList_appG _ etBytes (by rfl) _ _ rfl w5.heap.size _ 0 [] rfl hE A4 bL.length c4 bL rfl hsE rfl (by have := LN.out.2.2; simp; omega) (by simp) ?_; intro A6 c6 w6 hc6 hm6 ho6 hg6; clear tt tok2; have tok3 : True := trivial; obtain ⟨l6, hl6⟩ : ∃ z : List UInt8, z = [] ++ bL := ⟨_, rfl⟩; rw [← hl6] at ho6 ⊢; have HL6 := Lib.hid hl6; clear hl6; have f6 := fE.stepG (r := some w5.heap.size) hg6 (by intro g hg; injection hg with hg; omega); have ho0 := own_lit1 w6 0 0 rfl; have fZ : Fr noB w6 (w6.alloc (.cells #[.int .u8 0] 5)) := (Fr.refl noB w6).alloc _; have ho6' := own_new0 ho6 fZ; have b6 : l6.length ≤ 1000000 := by rw [HL6.out]; simpa using LN.out.2.2)
        | (have tt := tok3; at_builtin; refine wpList_appG _ etBytes (by rfl) _ _ rfl w5.heap.size (.slice A6 l6.length c6) l6.length l6 rfl ho6' (some ⟨w6.heap.size, 0, none⟩) 1 1 [0] rfl (Sl.own ho0) rfl (by simp; omega) (Nat.le_trans f6.size fZ.size) ?_; intro A7 c7 w7 hc7 hm7 ho7 hg7; clear tt tok3; have tok4 : True := trivial; obtain ⟨l7, hl7⟩ : ∃ z : List UInt8, z = l6 ++ [0] := ⟨_, rfl⟩; rw [← hl7] at ho7 ⊢; have HL7 := Lib.hid hl7; clear hl7; have f7 := (f6.step0 fZ).step (Fr.ofGrown (M := fun b => (Value.slice A6 l6.length c6).ownBlock = some b) hg7 (fun g hg => hg)) (fun b hb => .inl (ho6'.lt b hb).1))
        | (have tt := tok4; go_at_call 8; refine (kind_z _ A7 c7 l7.length l7 rfl (Sl.own ho7) (own_cap ho7) (by rw [HL7.out]; simp; omega) 0 0 (by rw [HL7.out, HL6.out]; exact LN.out.1.more) rfl).mono ?_; rintro e w8 ⟨rfl, f8⟩))
      go_ret
      exact ⟨rfl, ((f4'.step0 f5).step0 f7).step0 f8⟩
    · have HP2 := Lib.hid (hN2 (by simpa using hlb))
      clear hlb hN2
      go_upto_region 5 with (go_at_call 7; refine (putLabel_any _ lb h1 h2).mono ?_; intro e w4 hp; obtain ⟨A4, c4, rfl, f4⟩ := hp.no HP2.out; clear hp)
      replace hsC := hsC.fr0 f4
      have hmC : bC.length ≠ 0 := by have := CN.out.2.1; omega
      have hmC0 : ((bC.length : Int) == 0) = false := by rw [beq_eq_false_iff_ne]; omega
      have hltC : q % bC.length < bC.length := Nat.mod_lt _ (by omega)
      have htC : (bits BinOp.and IntKind.i64 a 1048575).tmod (bC.length : Int) = ((q % bC.length : Nat) : Int) := by rw [eq']; rfl
      have EQ' := Lib.hid eq'
      generalize hii : q % bC.length = j at hltC htC
      have y1 : (0 : Int) ≤ (j : Int) := by omega
      have y2 : (j : Int) ≤ (c2 : Int) := by omega
      have y3 : (j : Int) ≤ (bC.length : Int) := by omega
      have hpreC : (bC.take j).length = j := by rw [List.length_take]; omega
      have HPREC := Lib.hid hpreC
      have HLTC := Lib.hid hltC
      clear hpreC hii hmC eq eq'
      go_upto_region 7 with fail
      clear htC hmC0 y1
      have hs2 := hsC
      have tok1 : True := trivial
      go_upto_region 9 with (first
        | (have tt := tok1; go_at_call 8; refine (kind_z _ A2 c2 j (bC.take j) HPREC.out (Sl.takeB hs2) (by rw [HPREC.out]; have := HLTC.out; omega) (by rw [HPREC.out]; have := HLTC.out; have := CN.out.2.2; omega) 0 0 (CN.out.1.cut j HLTC.out) rfl).mono ?_; rintro e w5 ⟨rfl, f5⟩; replace hs2 := hs2.fr0 f5; clear tt tok1; have tok2 : True := trivial; have hE := World.ownsRow_lit (base := w5.heap.size) (e := 5) (size := 1) w5 #[] 0 (Nat.le_refl _) (by simp [maxLen]) rfl; have fE : Fr noB w5 (w5.alloc (.cells #[] 5)) := (Fr.refl noB w5).alloc _; have hsE := hs2.fr0 fE)
        | (have tt := tok2; at_builtin; refine wpList_appG _ etBytes (by rfl) _ _ rfl w5.heap.size _ 0 [] rfl hE A2 bC.length c2 bC rfl hsE rfl (by have := CN.out.2.2; simp; omega) (by simp) ?_; intro A6 c6 w6 hc6 hm6 ho6 hg6; clear tt tok2; have tok3 : True := trivial; obtain ⟨l6, hl6⟩ : ∃ z : List UInt8, z = [] ++ bC := ⟨_, rfl⟩; rw [← hl6] at ho6 ⊢; have HL6 := Lib.hid hl6; clear hl6; have f6 := fE.stepG (r := some w5.heap.size) hg6 (by intro g hg; injection hg with hg; omega); have ho0 := own_lit1 w6 0 0 rfl; have fZ : Fr noB w6 (w6.alloc (.cells #[.int .u8 0] 5)) := (Fr.refl noB w6).alloc _; have ho6' := own_new0 ho6 fZ; have b6 : l6.length ≤ 1000000 := by rw [HL6.out]; simpa using CN.out.2.2)
        | (have tt := tok3; at_builtin; refine wpList_appG _ etBytes (by rfl) _ _ rfl w5.heap.size (.slice A6 l6.length c6) l6.length l6 rfl ho6' (some ⟨w6.heap.size, 0, none⟩) 1 1 [0] rfl (Sl.own ho0) rfl (by simp; omega) (Nat.le_trans f6.size fZ.size) ?_; intro A7 c7 w7 hc7 hm7 ho7 hg7; clear tt tok3; have tok4 : True := trivial; obtain ⟨l7, hl7⟩ : ∃ z : List UInt8, z = l6 ++ [0] := ⟨_, rfl⟩; rw [← hl7] at ho7 ⊢; have HL7 := Lib.hid hl7; clear hl7; have f7 := (f6.step0 fZ).step (Fr.ofGrown (M := fun b => (Value.slice A6 l6.length c6).ownBlock = some b) hg7 (fun g hg => hg)) (fun b hb => .inl (ho6'.lt b hb).1))
        | (have tt := tok4; go_at_call 8; refine (kind_z _ A7 c7 l7.length l7 rfl (Sl.own ho7) (own_cap ho7) (by rw [HL7.out]; simp; omega) 0 0 (by rw [HL7.out, HL6.out]; exact CN.out.1.more) rfl).mono ?_; rintro e w8 ⟨rfl, f8⟩))
      have fC := (f5.step0 f7).step0 f8
      have hs8 := hsC.fr0 fC
      clear f5 f6 f7 f8 fE fZ hE hsE ho0 ho6 ho6' ho7 hg6 hg7 tok4 hs2
      go_upto_region 10 with (go_at_call 9; refine (label_no _ A2 c2 _ bC rfl hs8 hc2 (by have := CN.out.2.2; omega) CN.out.1.lb).mono ?_; rintro e w9 ⟨rfl, f9⟩)
      have fL : Fr noB w9 (w9.alloc (codL.o zLbl)) := (Fr.refl noB w9).alloc _
      replace fC := (fC.step0 f9).step0 fL
      replace hs8 := hsC.fr0 fC
      generalize w9.alloc (codL.o zLbl) = w10 at fC hs8 ⊢
      go_upto_region 14 with (first
        | (go_at_call 10; refine (dir_no _ A2 c2 _ bC rfl hs8 hc2 (by have := CN.out.2.2; omega) CN.out.1.dr).mono ?_; rintro e w11 ⟨B1, m1, d1, rfl, f11⟩; replace fC := fC.step0 f11; replace hs8 := hsC.fr0 fC)
        | (go_at_call 11; refine (blob_no _ A2 c2 _ bC rfl hs8 hc2 (by have := CN.out.2.2; omega) CN.out.1.bl).mono ?_; rintro e w12 ⟨B2, d2, rfl, f12⟩; replace fC := fC.step0 f12))
      go_wp2_with fail
      go_ret
      exact ⟨rfl, (f0.step0 f4).step0 fC⟩
  · have HP1 := Lib.hid (hN1 (by simpa using hrc))
    clear hrc hN1
    go_upto_region 4 with (go_at_call 6; refine (putChange_any _ r rs c hin).mono ?_; intro e w2 hp; obtain ⟨A2, c2, rfl, f2⟩ := hp.no HP1.out; clear hp)
    replace q2 := Cod.rd_fr0 q2 f2
    replace f0 := f0.step0 f2
    by_cases hlb : rightLb lb = true
    · have LN := Lib.hid (And.intro (lbN hlb) (lbB_len hlb))
      have LP := Lib.hid (show putLb lb = some (lbB lb) by unfold putLb; rw [if_pos hlb])
      generalize lbB lb = bL at LN LP
      clear hlb hN2
      go_upto_region 5 with (go_at_call 7; refine (putLabel_any _ lb h1 h2).mono ?_; intro e w4 hp; obtain ⟨A4, c4, rfl, hs4, f4, hc4, _⟩ := hp.some (b := bL) (n := bL.length) LP.out rfl; clear hp)
      clear eq hq
      have hm : bL.length ≠ 0 := by have := LN.out.2.1; omega
      have hm0 : ((bL.length : Int) == 0) = false := by rw [beq_eq_false_iff_ne]; omega
      have hlt : q % bL.length < bL.length := Nat.mod_lt _ (by omega)
      have ht : (bits BinOp.and IntKind.i64 a 1048575).tmod (bL.length : Int) = ((q % bL.length : Nat) : Int) := by rw [eq']; rfl
      generalize hii : q % bL.length = i at hlt ht
      have x1 : (0 : Int) ≤ (i : Int) := by omega
      have x2 : (i : Int) ≤ (c4 : Int) := by omega
      have x3 : (i : Int) ≤ (bL.length : Int) := by omega
      have hpre : (bL.take i).length = i := by rw [List.length_take]; omega
      have HPRE := Lib.hid hpre
      have HLT := Lib.hid hlt
      clear hpre hii hm eq'
      go_upto_region 16 with fail
      have f4' := f0.step0 f4
      clear f0 f4 f2 ht hm0
      have tok1 : True := trivial
      go_wp2_with (first
        | (have tt := tok1; go_at_call 8; refine (kind_z _ A4 c4 i (bL.take i) HPRE.out (Sl.takeB hs4) (by rw [HPRE.out]; have := HLT.out; omega) (by rw [HPRE.out]; have := HLT.out; have := LN.out.2.2; omega) 0 0 (LN.out.1.cut i HLT.out) rfl).mono ?_; rintro e w5 ⟨rfl, f5⟩; replace hs4 := hs4.fr0 f5; clear tt tok1; have tok2 : True := trivial; have hE := World.ownsRow_lit (base := w5.heap.size) (e := 5) (size := 1) w5 #[] 0 (Nat.le_refl _) (by simp [maxLen]) rfl; have fE : Fr noB w5 (w5.alloc (.cells #[] 5)) := (Fr.refl noB w5).alloc _; have hsE := hs4.fr0 fE)
        | (have tt := tok2; at_builtin; refine wpList_appG _ etBytes (by rfl) _ _ rfl w5.heap.size _ 0 [] rfl hE A4 bL.length c4 bL rfl hsE rfl (by have := LN.out.2.2; simp; omega) (by simp) ?_; intro A6 c6 w6 hc6 hm6 ho6 hg6; clear tt tok2; have tok3 : True := trivial; obtain ⟨l6, hl6⟩ : ∃ z : List UInt8, z = [] ++ bL := ⟨_, rfl⟩; rw [← hl6] at ho6 ⊢; have HL6 := Lib.hid hl6; clear hl6; have f6 := fE.stepG (r := some w5.heap.size) hg6 (by intro g hg; injection hg with hg; omega); have ho0 := own_lit1 w6 0 0 rfl; have fZ : Fr noB w6 (w6.alloc (.cells #[.int .u8 0] 5)) := (Fr.refl noB w6).alloc _; have ho6' := own_new0 ho6 fZ; have b6 : l6.length ≤ 1000000 := by rw [HL6.out]; simpa using LN.out.2.2)
        | (have tt := tok3; at_builtin; refine wpList_appG _ etBytes (by rfl) _ _ rfl w5.heap.size (.slice A6 l6.length c6) l6.length l6 rfl ho6' (some ⟨w6.heap.size, 0, none⟩) 1 1 [0] rfl (Sl.own ho0) rfl (by simp; omega) (Nat.le_trans f6.size fZ.size) ?_; intro A7 c7 w7 hc7 hm7 ho7 hg7; clear tt tok3; have tok4 : True := trivial; obtain ⟨l7, hl7⟩ : ∃ z : List UInt8, z = l6 ++ [0] := ⟨_, rfl⟩; rw [← hl7] at ho7 ⊢; have HL7 := Lib.hid hl7; clear hl7; have f7 := (f6.step0 fZ).step (Fr.ofGrown (M := fun b => (Value.slice A6 l6.length c6).ownBlock = some b) hg7 (fun g hg => hg)) (fun b hb => .inl (ho6'.lt b hb).1))
        | (have tt := tok4; go_at_call 8; refine (kind_z _ A7 c7 l7.length l7 rfl (Sl.own ho7) (own_cap ho7) (by rw [HL7.out]; simp; omega) 0 0 (by rw [HL7.out, HL6.out]; exact LN.out.1.more) rfl).mono ?_; rintro e w8 ⟨rfl, f8⟩))
      go_ret
      exact ⟨rfl, ((f4'.step0 f5).step0 f7).step0 f8⟩
    · have HP2 := Lib.hid (hN2 (by simpa using hlb))
      clear hlb hN2
      go_wp2_with (go_at_call 7; refine (putLabel_any _ lb h1 h2).mono ?_; intro e w4 hp; obtain ⟨A4, c4, rfl, f4⟩ := hp.no HP2.out; clear hp)
      go_ret
      exact ⟨rfl, f0.step0 f4⟩
end Go.Proofs.Ytejkfekpgbmdiaa
