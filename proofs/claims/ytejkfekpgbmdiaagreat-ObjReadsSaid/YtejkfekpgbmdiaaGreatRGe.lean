/- Contract: the reference's Get. (ex_ldO_at, ex_ldN_at) -/
import Derived.Test.YtejkfekpgbmdiaaGreatRGd
namespace Go.Proofs.YtejkfekpgbmdiaaGreat
open Go.RowKit
set_option linter.unusedVariables false
set_option linter.unusedSimpArgs false

theorem rdAll_bad {α : Type} {f : RS → α × RS} (hf : ∀ s, s.2 = true → (f s).2.2 = true) : ∀ (n : Nat) (s : RS), s.2 = true → (rdAll f n s).2.2 = true
  | 0, s, h => h
  | n + 1, s, h => rdAll_bad hf n (f s).2 (hf s h)
theorem manyT_all {α : Type} {f : RS → α × RS} (hf : ∀ s, s.2 = true → (f s).2.2 = true) : ∀ (n : Nat) (l : List α) (s : RS), ((manyT f l n s).2.2 = true → (rdAll f n s).2.2 = true) ∧ ((manyT f l n s).2.2 = false → manyT f l n s = (l ++ (rdAll f n s).1, (rdAll f n s).2))
  | 0, l, s => by
    unfold manyT
    split
    · rename_i h
      exact ⟨fun _ => h, fun h' => by rw [h] at h'; cases h'⟩
    · simp [rdMany, rdAll]
  | n + 1, l, s => by
    by_cases h : s.2 = true
    · unfold manyT
      rw [if_pos h]
      exact ⟨fun _ => rdAll_bad hf _ _ h, fun h' => by rw [h] at h'; cases h'⟩
    · have h' : s.2 = false := by simpa using h
      have e := manyT_step f (n + 1) 0 (by omega) l s (f s).2 (f s).1 h' rfl
      simp only [Nat.sub_zero, Nat.zero_add, Nat.add_sub_cancel] at e
      obtain ⟨i1, i2⟩ := manyT_all hf n (l ++ [(f s).1]) (f s).2
      rw [e]
      simp only [rdAll]
      refine ⟨i1, fun h => ?_⟩
      rw [i2 h]
      simp
/-- an operation and a reader's value come out -/
def OprTo (B : Nat) (w : World) (x : Opn) (s' : RS) (e : Ending) (w' : World) : Prop :=
  ∃ r v', e = .returned (.tuple #[.agg (codO.A r), .agg (codN.A v')]) ∧ OpIn w' r x ∧ w'.ownsRow w.heap.size 69 2 (.slice r.A r.n r.c) r.n (codS.row x.Over) ∧ InAt B w' v' s' ∧ Fr noB w w'
def RoR (B : Nat) (W : World) (R U E P n mx : Nat) (r : OpW) (tot : List St × RS) (gk : Nat) (iv : Value) (wr : World) : Prop :=
  ∃ (k : Nat) (l : List St) (s : RS) (v : InV) (A : Option Addr) (c : Nat), iv = .int .i64 (k : Int) ∧ gk = n - k ∧ k ≤ n ∧ l.length = k ∧ s.1.length ≤ mx ∧ RN codO B W wr R U E P v s zOpW { r with A := A, n := l.length, c := c } ∧ OwnC codS W wr A c l ∧ tot = manyT rdSt l (n - k) s
set_option maxRecDepth 100000 in
set_option maxHeartbeats 8000000 in
theorem r3get_z (B : Nat) (w : World) (hB : B ≤ w.heap.size) (v : InV) (s : RS) (h : InAt B w v s) (hlen : s.1.length ≤ 140737488355328) (x : Opn) (s' : RS) (hh : rdOp s = (x, s')) : Calls Tryz.prog 77 #[.agg (codN.A v)] w (OprTo B w x s') := by
  obtain ⟨kd, s1, e1⟩ := rd_eq (rdNum 2) s
  have b1 := rdNum_bd 2 s
  rw [e1] at b1
  obtain ⟨a, s2, e2⟩ := rd_eq rdSt s1
  have b2 := rdSt_len s1
  rw [e2] at b2
  obtain ⟨nd, s3, e3⟩ := rd_eq rdSt s2
  have b3 := rdSt_len s2
  rw [e3] at b3
  simp only at b1 b2 b3
  have m1 : s1.1.length ≤ 140737488355328 := by omega
  have m2 : s2.1.length ≤ 140737488355328 := by omega
  have m3 : s3.1.length ≤ 140737488355328 := by omega
  have hOp0 : rdOp0 s = if kd = 1 then (⟨(kd : Int), a, nd, (rdSt s3).1, (rdText 60 (rdSt s3).2).1, zID, []⟩, (rdText 60 (rdSt s3).2).2) else
      (⟨(kd : Int), a, nd, zSt, [], (rdId s3).1, (rdAll rdSt (rdNum 64 (rdId s3).2).1 (rdNum 64 (rdId s3).2).2).1⟩, (rdAll rdSt (rdNum 64 (rdId s3).2).1 (rdNum 64 (rdId s3).2).2).2) := by
    unfold rdOp0
    rw [e1]
    dsimp only
    rw [e2]
    dsimp only
    rw [e3]
  have HO := Lib.hid hOp0
  have HR := Lib.hid hh
  have E1 := Lib.hid e1
  have E2 := Lib.hid e2
  have E3 := Lib.hid e3
  clear e1 e2 e3 b1 b2 b3 hOp0 hh
  have f2 : Fr noB w (((w.alloc (.cells (codN.A v) 110)).alloc (codO.o zOpW)).alloc (codN.o zInV)) := (((Fr.refl noB w).alloc _).alloc _).alloc _
  have q0 := Cod.rd_fr0 (Cod.rd_new (C := codN) w 110 v) (((Fr.refl noB (w.alloc (.cells (codN.A v) 110))).alloc (codO.o zOpW)).alloc (codN.o zInV))
  have r2 : codO.bxd (((w.alloc (.cells (codN.A v) 110)).alloc (codO.o zOpW)).alloc (codN.o zInV)) (w.heap.size + 1) = some zOpW := by
    have h1 : (w.alloc (.cells (codN.A v) 110)).heap.size = w.heap.size + 1 := by simp
    rw [Cod.bxd_old _ _ _ (by simp), ← h1, Cod.bxd_new]
  have r3 : codN.bxd (((w.alloc (.cells (codN.A v) 110)).alloc (codO.o zOpW)).alloc (codN.o zInV)) (w.heap.size + 1 + 1) = some zInV := by
    have h1 : ((w.alloc (.cells (codN.A v) 110)).alloc (codO.o zOpW)).heap.size = w.heap.size + 1 + 1 := by simp
    rw [← h1, Cod.bxd_new]
  replace h := h.fr f2
  go_enter Tryz.func77, Tryz.ntmps77
  go_upto_region 1 with fail
  generalize ((w.alloc (.cells (codN.A v) 110)).alloc (codO.o zOpW)).alloc (codN.o zInV) = W0 at f2 q0 r2 r3 h ⊢
  have hPe : w.heap.size ≤ w.heap.size := Nat.le_refl _
  generalize hP0 : w.heap.size = P0 at q0 r2 r3 ⊢
  have hRw : w.heap.size ≤ P0 + 1 := by omega
  have hRU : P0 + 1 < P0 + 1 + 1 := by omega
  clear hP0 hPe
  go_upto_region 2 with (go_at_call 72; refine (getnum_z B _ _ _ h hlen 2 2 rfl (by decide) kd _ E1.out).mono ?_; rintro e w1 ⟨v1, rfl, hz, f1⟩)
  have fa : Fr noB w1 (w1.alloc (codN.o v1)) := (Fr.refl noB w1).alloc _
  have b1 := Cod.rd_new' (C := codN) w1 v1
  replace r2 := Cod.bxd_fr0 (Cod.bxd_fr0 r2 f1) fa
  replace r3 := Cod.bxd_fr0 (Cod.bxd_fr0 r3 f1) fa
  have h1 := hz.fr fa
  replace f2 := (f2.step0 f1).step0 fa
  clear hz f1 fa h q0
  generalize w1.alloc (codN.o v1) = W1 at b1 r2 r3 h1 f2 ⊢
  generalize w1.heap.size = N1 at b1 ⊢
  go_upto_region 3 with (go_at_call 109; refine (r3getstamp_z B _ (Nat.le_trans hB f2.size) _ _ h1 m1 a _ E2.out).mono ?_; rintro e w1 ⟨v2, rfl, hz, f1⟩; obtain ⟨W1, W2, st1, st2, fa, ta, tb⟩ := two_new okS okN w1 zSt a zInV v2)
  replace r2 := Cod.bxd_fr0 (Cod.bxd_fr0 r2 f1) fa
  replace r3 := Cod.bxd_fr0 (Cod.bxd_fr0 r3 f1) fa
  try replace a1 := Cod.rd_fr0 (Cod.rd_fr0 a1 f1) fa
  have h2 := hz.fr fa
  have a1 := Cod.bxd_rd ta
  have b2 := Cod.bxd_rd tb
  replace f2 := (f2.step0 f1).step0 fa
  clear st1 st2 hz f1 fa ta tb h1
  generalize w1.heap.size = N2 at a1 b2 ⊢
  clear b1
  go_upto_region 4 with (go_at_call 109; refine (r3getstamp_z B _ (Nat.le_trans hB f2.size) _ _ h2 m2 nd _ E3.out).mono ?_; rintro e w1 ⟨v3, rfl, hz, f1⟩; obtain ⟨W1, W3, st1, st2, fa, ta, b5⟩ := two_new okS okN w1 zSt nd zInV v3)
  have hUE : P0 + 1 + 1 < w1.heap.size + 1 := Nat.lt_succ_of_lt (Nat.lt_of_lt_of_le (Cod.bxd_lt r3) f1.size)
  replace r2 := Cod.bxd_fr0 (Cod.bxd_fr0 r2 f1) fa
  replace r3 := Cod.bxd_fr0 (Cod.bxd_fr0 r3 f1) fa
  replace a1 := Cod.rd_fr0 (Cod.rd_fr0 a1 f1) fa
  have h5 := hz.fr fa
  have a2 := Cod.bxd_rd ta
  replace f2 := (f2.step0 f1).step0 fa
  clear st1 st2 hz f1 fa ta h2 b2
  generalize w1.heap.size = N3 at a2 b5 hUE ⊢
  generalize hr0 : ({ zOpW with Kind := (kd : Int), At := a, Node := nd } : OpW) = r0
  have fa : Fr noB W3 (W3.alloc (codO.o r0)) := (Fr.refl noB W3).alloc _
  have hb : RN codO B w (W3.alloc (codO.o r0)) (P0 + 1) (P0 + 1 + 1) (N3 + 1) W3.heap.size v3 s3 zOpW r0 :=
    ⟨Cod.bxd_fr0 r2 fa, Cod.bxd_fr0 r3 fa, Cod.bxd_fr0 b5 fa, h5.fr fa, Cod.bxd_new _ _, f2.step0 fa, hB, hRw, hRU, hUE, Cod.bxd_lt b5⟩
  go_upto_region 5 with fail
  have R0 := Lib.hid hr0.symm
  generalize W3.alloc (codO.o r0) = W6 at hb ⊢
  generalize W3.heap.size = P at hb ⊢
  clear fa a1 a2 h5 b5 r2 r3 f2 hRw hRU hUE hr0
  generalize hEe : N3 + 1 = E at hb ⊢
  generalize hRe : P0 + 1 = R at hb ⊢
  have kV := Cod.bxd_rd hb.es
  by_cases hk : kd = 1
  · have k1 : ((kd : Int) == 1) = true := by rw [hk]; rfl
    have hO1 := HO.out
    rw [if_pos hk] at hO1
    obtain ⟨pa, s4, e4⟩ := rd_eq rdSt s3
    have b4 := rdSt_len s3
    rw [e4] at b4 hO1
    obtain ⟨nm, s5, e5⟩ := rd_eq (rdText 60) s4
    have b5 := rdText_le 60 s4
    have b6 := rdText_len 60 s4
    rw [e5] at b5 b6 hO1
    simp only at b4 b5 b6 hO1
    have m4 : s4.1.length ≤ 140737488355328 := by omega
    have E4 := Lib.hid e4
    have E5 := Lib.hid e5
    have HO2 := Lib.hid hO1
    clear e4 e5 hO1 hk
    go_upto_region 7 with (go_at_call 109; refine (r3getstamp_z B _ hb.size _ _ hb.inn m3 pa _ E4.out).mono ?_; rintro e w1 ⟨v4, rfl, hz, f1⟩; obtain ⟨W1, W2, st1, st2, fa, ta, tb⟩ := two_new okS okN w1 zSt pa zInV v4)
    have fr := f1.step0 fa
    replace hb := hb.new fr
    have ha := hz.fr fa
    have qa := Cod.bxd_rd ta
    have qb := Cod.bxd_rd tb
    clear st1 st2 hz f1 fa ta tb fr kV k1
    generalize w1.heap.size = Na at qa qb ⊢
    go_upto_region 8 with (go_at_call 78; refine (r2gettext_z B _ hb.size _ _ ha m4 60 60 rfl (by decide) nm _ E5.out).mono ?_; rintro e w1 ⟨v5, rfl, hz, f1⟩)
    have fa : Fr noB w1 (w1.alloc (codN.o v5)) := (Fr.refl noB w1).alloc _
    have fr := f1.step0 fa
    replace hb := hb.new fr
    replace qa := Cod.rd_fr0 qa fr
    have hd := hz.fr fa
    have qe := Cod.bxd_new (C := codN) w1 v5
    clear hz f1 fa fr qb ha
    generalize w1.alloc (codN.o v5) = W2 at qa qe hb hd ⊢
    generalize w1.heap.size = Ne at qe ⊢
    have hst := stO_Parent hb.bx pa
    have nNP : Ne ≠ P := Blk.ne (Cod.bxd_blk qe) (Cod.bxd_blk hb.bx) (by decide)
    have g1 := (Cod.put_fr hb.bx { r0 with Parent := pa }).1
    replace hd := hd.box hb.BP g1
    replace qe := Cod.bxd_fr qe g1 (fun e => nNP e)
    replace hb := hb.put { r0 with Parent := pa }
    go_upto_region 9 with fail
    clear hst g1 qa
    generalize codO.put W2 P { r0 with Parent := pa } = W3 at hb hd qe ⊢
    have k3 := (opAt (Cod.bxd_rd hb.bx)).name
    have k4 := (Cod.bxd_blk hb.bx).frozen 7
    have g1 := Cod.set_fr W3 P 7 (.string (str nm))
    replace hd := hd.box hb.BP g1
    replace qe := Cod.bxd_fr qe g1 (fun e => nNP e)
    replace hb := hb.set 7 (.string (str nm)) { r0 with Parent := pa, Name := nm } (seO_Name _ nm)
    go_upto_region 10 with fail
    clear k3 k4 g1 nNP
    generalize World.setCell _ _ _ = W4 at hb hd qe ⊢
    have qv := Cod.bxd_rd qe
    have hst := okN.stR_box hb.es v5
    simp only [Cod.v] at hst
    replace hb := hb.rdr hd
    go_upto_region 21 with fail
    clear hst qv qe hd
    generalize codN.put W4 E v5 = W at hb ⊢
    obtain ⟨rF, hrF⟩ : ∃ rF : OpW, rF = { r0 with Parent := pa, Name := nm } := ⟨_, rfl⟩
    obtain ⟨oF, hoF⟩ : ∃ oF : Opn, oF = ⟨(kd : Int), a, nd, pa, nm, zID, []⟩ := ⟨_, rfl⟩
    obtain ⟨sF, hsF⟩ : ∃ sF : RS, sF = s5 := ⟨_, rfl⟩
    obtain ⟨vF, hvF⟩ : ∃ vF : InV, vF = v5 := ⟨_, rfl⟩
    rw [← hrF, ← hsF, ← hvF] at hb
    have HF2 := Lib.hid (show sF.2 = false → rdOp0 s = (oF, sF) by intro _; rw [HO2.out, hoF, hsF])
    have HF1 := Lib.hid (show sF.2 = true → rdOp s = (zOp, ([], true)) by intro hbd; unfold rdOp; rw [HO2.out, ← hsF]; simp [hbd])
    clear hsF hvF
    have hin : OpIn W rF oF := by
      rw [hrF, hoF, R0.out]
      exact ⟨rfl, rfl, Sl.nil _ _, by simp, by simpa using (show nm.length ≤ 140737488355328 by omega)⟩
    have hown : W.ownsRow w.heap.size 69 2 (.slice rF.A rF.n rF.c) rF.n (codS.row oF.Over) := by
      rw [hrF, hoF, R0.out]
      exact World.ownsRow_nil _ _ _ _
    clear hrF hoF HO2
    have o1 := hb.o1; have o2 := hb.o2; have o3 := hb.o3; have o4 := hb.o4; have oB := hb.hB
    have kE := (nAt (Cod.bxd_rd hb.es)).bad
    rw [hb.inn.bad] at kE
    cases hbad : sF.2 with
    | true =>
      have HQ := Lib.hid (HF1.out hbad)
      rw [hbad] at kE
      clear hbad
      go_upto_region 22 with fail
      have HZ := HR.out
      rw [HQ.out] at HZ
      injection HZ with hx1 hx2
      subst hx1 hx2
      have hrs := okO.stR_box hb.rs zOpW
      simp only [Cod.v] at hrs
      obtain ⟨g1, g2, g3⟩ := Cod.put_fr hb.rs zOpW
      have t3 := Cod.bxd_fr hb.us g1 (fun e => by simp only [oneB] at e; omega)
      have hst := okN.stR_box t3 ⟨none, 0, 0, true⟩
      simp only [Cod.v] at hst
      obtain ⟨k1, k2, k3⟩ := Cod.put_fr t3 ⟨none, 0, 0, true⟩
      have g4 := Cod.bxd_fr g3 k1 (fun e => by simp only [oneB] at e; omega)
      have fo := (hb.fr.step g1 (fun b hb => .inl (by simp only [oneB] at hb; omega))).step k1 (fun b hb => .inl (by simp only [oneB] at hb; omega))
      clear g1 g3 t3 k1 HO HR HF1 HF2 HQ
      go_wp2_with fail
      refine bodyPost_ret (ret_cc okO okN rfl _ _ R (R + 1) _ _ (by first | rfl | (subst hRe; rfl)) (by first | rfl | (subst hRe; rfl)) g4 k3) rfl ?_
      exact ⟨zOpW, _, rfl, ⟨rfl, rfl, Sl.nil _ _, by simp [zOp], by simp [zOpW]⟩, World.ownsRow_nil _ _ _ _, InAt.failed B _, fo⟩
    | false =>
      have HF := Lib.hid (HF2.out hbad)
      rw [hbad] at kE
      have kP := Cod.bxd_rd hb.bx
      have HB := Lib.hid hbad
      clear hbad
      cases hgd : goodOp oF with
      | false =>
        have HQ := Lib.hid (show rdOp s = (zOp, ([], true)) by unfold rdOp; rw [HF.out]; simp [hgd])
        have HG := Lib.hid hgd
        clear hgd
        go_upto_region 22 with (go_at_call 61; refine (r3good_any _ rF oF hin).mono ?_; rintro e wz ⟨rfl, hf⟩; rw [HG.out]; replace hb := hb.new hf)
        clear kE kP hown hin
        have HZ := HR.out
        rw [HQ.out] at HZ
        injection HZ with hx1 hx2
        subst hx1 hx2
        have hrs := okO.stR_box hb.rs zOpW
        simp only [Cod.v] at hrs
        obtain ⟨g1, g2, g3⟩ := Cod.put_fr hb.rs zOpW
        have t3 := Cod.bxd_fr hb.us g1 (fun e => by simp only [oneB] at e; omega)
        have hst := okN.stR_box t3 ⟨none, 0, 0, true⟩
        simp only [Cod.v] at hst
        obtain ⟨k1, k2, k3⟩ := Cod.put_fr t3 ⟨none, 0, 0, true⟩
        have g4 := Cod.bxd_fr g3 k1 (fun e => by simp only [oneB] at e; omega)
        have fo := (hb.fr.step g1 (fun b hb => .inl (by simp only [oneB] at hb; omega))).step k1 (fun b hb => .inl (by simp only [oneB] at hb; omega))
        clear g1 g3 t3 k1 HO HR HF1 HF2 HQ
        go_wp2_with fail
        refine bodyPost_ret (ret_cc okO okN rfl _ _ R (R + 1) _ _ (by first | rfl | (subst hRe; rfl)) (by first | rfl | (subst hRe; rfl)) g4 k3) rfl ?_
        exact ⟨zOpW, _, rfl, ⟨rfl, rfl, Sl.nil _ _, by simp [zOp], by simp [zOpW]⟩, World.ownsRow_nil _ _ _ _, InAt.failed B _, fo⟩
      | true =>
        have HQ := Lib.hid (show rdOp s = (oF, sF) by unfold rdOp; rw [HF.out]; simp [hgd, HB.out])
        have HG := Lib.hid hgd
        clear hgd
        go_upto_region 23 with (go_at_call 61; refine (r3good_any _ rF oF hin).mono ?_; rintro e wg ⟨rfl, hf⟩; rw [HG.out]; replace hb := hb.new hf; replace hin := hin.fr hf; replace hown := own_new0 hown hf; clear hf)
        have HZ := HR.out
        rw [HQ.out] at HZ
        injection HZ with hx1 hx2
        subst hx1 hx2
        clear kE kP HO HR HF1 HF2 HQ HF
        have fd : Fr noB wg wg.drew := (Fr.refl noB wg).drew
        replace hb := hb.new fd
        replace hin := hin.fr fd
        replace hown := own_new0 hown fd
        refine wp_region_M 3 4 [⟨5070602400912917605986812821504, 1024, 0⟩, ⟨10141204801825835211973625643008, 512, 0⟩, ⟨0, 5070602400912917605986812821508, 1⟩, ⟨0, 10141204801825835211973625643016, 7⟩] [(true, 0), (true, 1), (false, 2)] (fun w' => codO.rd w' P 0 = some rF ∧ codN.rd w' E 0 = some vF) (by kernel_rfl) rfl (by kernel_rfl) (by kernel_rfl) (by kernel_rfl) ⟨Cod.bxd_rd hb.bx, Cod.bxd_rd hb.es⟩ (fun hA hF => ?_)
        iterate 2
          refine wpAnyS_take (v := ?_) hA rfl (fun _ _ _ h => h) (Or.inl ⟨by rfl, ?_⟩) hF (fun hA => ?_)
          rotate_left
          · intro wS hSw; (try dsimp only at hSw); obtain ⟨s1, s2⟩ := hSw; first | (apply Eq.trans; apply ex_ld_id; exact rfl; exact rfl; assumption; with_reducible rfl) | (apply Eq.trans; apply ex_ldN_at; exact rfl; exact rfl; assumption; with_reducible rfl) | (apply Eq.trans; apply ex_ldO_at; exact rfl; exact rfl; assumption; with_reducible rfl) | (go_simp; try with_reducible rfl)
          try simp only [List.getElem_toArray, List.getElem_cons_zero, List.getElem_cons_succ, Act.put, List.setIfInBounds_toArray, List.set_cons_zero, List.set_cons_succ]
        refine wpAnyS_one hA rfl (fun K' hK => ?_)
        refine step_skipI rfl _ (ex_stC_at okO rfl rfl rfl hb.rs) ?_
        obtain ⟨g1, g2, g3⟩ := Cod.put_fr hb.rs rF
        refine hK.out _ _ ⟨Cod.rd_fr hF.1 g1 (fun e => by simp only [oneB] at e; omega), Cod.rd_fr hF.2 g1 (fun e => by simp only [oneB] at e; omega)⟩ (fun hA => ?_)
        clear hK K'
        refine wpAnyS_end hA rfl ?_
        simp only [List.drop_succ_cons, List.drop_zero]
        clear hF
        have t3 := Cod.bxd_fr hb.us g1 (fun e => by simp only [oneB] at e; omega)
        have hst := okN.stR_box t3 vF
        simp only [Cod.v] at hst
        obtain ⟨k1, k2, k3⟩ := Cod.put_fr t3 vF
        have g4 := Cod.bxd_fr g3 k1 (fun e => by simp only [oneB] at e; omega)
        have i2 := (hb.inn.box (show B ≤ R by omega) g1).box (show B ≤ R + 1 by omega) k1
        have fo := (hb.fr.step g1 (fun b hb => .inl (by simp only [oneB] at hb; omega))).step k1 (fun b hb => .inl (by simp only [oneB] at hb; omega))
        have hw1 := own_box (Cod.bxd_blk t3) (own_box (Cod.bxd_blk hb.rs) hown (by decide) g1) (by decide) k1
        have hin2 : OpIn (codN.put (codO.put wg.drew R rF) (R + 1) vF) rF oF := ⟨hin.eq, hin.len, Sl.own hw1, hin.bd, hin.nm⟩
        clear g1 g3 t3 k1 hb hin hown fd o1 o2 o3 o4 oB
        go_wp2_with fail
        refine bodyPost_ret (ret_cc okO okN rfl _ _ R (R + 1) _ _ (by first | rfl | (subst hRe; rfl)) (by first | rfl | (subst hRe; rfl)) g4 k3) rfl ?_
        exact ⟨rF, vF, rfl, hin2, hw1, i2, fo⟩
  · have k1 : ((kd : Int) == 1) = false := by rw [beq_eq_false_iff_ne]; omega
    have hO1 := HO.out
    rw [if_neg hk] at hO1
    obtain ⟨d, s4, e4⟩ := rd_eq rdId s3
    have b4 := rdId_len s3
    rw [e4] at b4 hO1
    obtain ⟨n, s5, e5⟩ := rd_eq (rdNum 64) s4
    have b5 := rdNum_bd 64 s4
    rw [e5] at b5 hO1
    simp only at b4 b5 hO1
    have m4 : s4.1.length ≤ 140737488355328 := by omega
    have m5 : s5.1.length ≤ 140737488355328 := by omega
    have n64 : n ≤ 64 := b5.1
    obtain ⟨tot, htot⟩ : ∃ tot, tot = manyT rdSt [] n s5 := ⟨_, rfl⟩
    have hall := manyT_all (f := rdSt) Ext.st.go n [] s5
    rw [← htot] at hall
    have HA := Lib.hid hall
    have E4 := Lib.hid e4
    have E5 := Lib.hid e5
    have HF0 := Lib.hid hO1
    have HT := Lib.hid htot
    clear e4 e5 hO1 hk b4 b5 htot hall
    go_upto_region 12 with (go_at_call 76; refine (r2getid_z B _ hb.size _ _ hb.inn m3 d _ E4.out).mono ?_; rintro e w1 ⟨v4, rfl, hz, f1⟩; obtain ⟨W2, st1, st2, fa, ta, tb⟩ := two_newA okN w1 d zInV v4)
    have fr := f1.step0 fa
    replace hb := hb.new fr
    have ha := hz.fr fa
    have qa := bxA_rd ta
    have qb := Cod.bxd_rd tb
    clear st1 st2 hz f1 fa ta tb fr kV k1
    generalize w1.heap.size = Na at qa qb ⊢
    go_upto_region 13 with (go_at_call 72; refine (getnum_z B _ v4 _ ha m4 64 64 rfl (by decide) n _ E5.out).mono ?_; rintro e w1 ⟨v5, rfl, hz, f1⟩)
    have fa : Fr noB w1 (w1.alloc (codN.o v5)) := (Fr.refl noB w1).alloc _
    have fr := f1.step0 fa
    replace hb := hb.new fr
    replace qa := rdI_fr qa (rdI_lt qa) fr (by simp [noB])
    have hd := hz.fr fa
    have qe := Cod.bxd_new (C := codN) w1 v5
    clear hz f1 fa fr qb ha
    generalize w1.alloc (codN.o v5) = W2 at qa qe hb hd ⊢
    generalize w1.heap.size = Ne at qe ⊢
    have hst := stO_Data hb.bx d
    have nNP : Ne ≠ P := Blk.ne (Cod.bxd_blk qe) (Cod.bxd_blk hb.bx) (by decide)
    have g1 := (Cod.put_fr hb.bx { r0 with Data := d }).1
    replace hd := hd.box hb.BP g1
    replace qe := Cod.bxd_fr qe g1 (fun e => nNP e)
    replace hb := hb.put { r0 with Data := d }
    go_upto_region 14 with fail
    clear hst g1 qa
    generalize hr1 : ({ r0 with Data := d } : OpW) = r1 at hb hd qe ⊢
    have R1 := Lib.hid hr1.symm
    clear hr1
    generalize codO.put W2 P r1 = W3 at hb hd qe ⊢
    have qv := Cod.bxd_rd qe
    have hst := okN.stR_box hb.es v5
    simp only [Cod.v] at hst
    replace hb := hb.rdr hd
    go_upto_region 15 with fail
    clear hst qv qe hd
    generalize codN.put W3 E v5 = W4 at hb ⊢
    go_upto_region 16 with fail
    go_loopg [19] n (fun gk iv wr => RoR B w R (R + 1) E P n 140737488355328 r1 tot gk iv wr)
    case atStart => exact ⟨0, [], s5, v5, none, 0, rfl, by omega, by omega, rfl, m5, by
      have e : ({ r1 with A := none, n := ([] : List St).length, c := 0 } : OpW) = r1 := by rw [R1.out, R0.out]; rfl
      rw [e]; exact hb, World.ownsRow_nil _ _ _ _, by rw [HT.out, Nat.sub_zero]⟩
    case round =>
      obtain ⟨k, l, sk, vk, A, c, rfl, rfl, hk, hl, hmx, hb, ho, htot⟩ := hrel
      have kE := (nAt (Cod.bxd_rd hb.es)).bad
      rw [hb.inn.bad] at kE
      by_cases hgo : k < n ∧ sk.2 = false
      · obtain ⟨hlt, hskb⟩ := hgo
        rw [hskb] at kE
        have i1 : (k : Int) < (n : Int) := by omega
        obtain ⟨xa, sn, ex⟩ := rd_eq rdSt sk
        have hmn : sn.1.length ≤ 140737488355328 := by
          have := rdSt_len sk
          rw [ex] at this
          exact Nat.le_trans this hmx
        have EX := Lib.hid ex
        have HT2 := Lib.hid (htot.trans (manyT_step rdSt n k hlt l sk sn _ hskb ex))
        have HL := Lib.hid hl
        have HLT := Lib.hid hlt
        have kV := Cod.bxd_rd hb.es
        clear ex htot hl hlt hskb
        go_upto_region 19 with (go_at_call 109; refine (r3getstamp_z B _ hb.size _ _ hb.inn hmx xa _ EX.out).mono ?_; rintro e w1 ⟨va, rfl, hz, f1⟩; obtain ⟨W1, W2, st1, st2, fa, ta, tb⟩ := two_new okS okN w1 zSt xa zInV va)
        have fr := f1.step0 fa
        replace hb := hb.new fr
        replace ho := own_new0 ho fr
        have hd := hz.fr fa
        have qa := Cod.bxd_rd ta
        have qe := tb
        clear st1 st2 hz f1 fa ta tb fr kE kV
        generalize w1.heap.size = Nd at qa qe ⊢
        have k37 := (opAt (Cod.bxd_rd hb.bx)).over
        have fn : Fr noB W2 (W2.alloc (codS.ro [xa])) := (Fr.refl noB W2).alloc _
        have sl := Cod.sl_new (C := codS) W2 [xa]
        replace hb := hb.new fn
        replace ho := own_new0 ho fn
        replace hd := hd.fr fn
        replace qe := Cod.bxd_fr0 qe fn
        clear fn
        go_upto_region 20 with (at_builtin; refine wpList_appC' etS w _ rfl _ _ rfl A l.length c l rfl rfl ho (some ⟨W2.heap.size, 0, none⟩) 1 1 [xa] rfl sl rfl (by have := HL.out; have := HLT.out; simp; omega) hb.fr.size ?_; intro A5 c5 w5 hc5 hm5 ho5 hg5 hA5; have hd0 := RN.inG hb ho hg5 hd; have qe0 := bxd_grow qe ho (by decide) hg5; replace hb := hb.grow ho (by decide) (by decide) hg5; obtain ⟨l', hl'⟩ : ∃ l', l' = l ++ [xa] := ⟨_, rfl⟩; rw [← hl'] at ho5 ⊢; have HL' := Lib.hid hl'; clear hl'; have k38 := (opAt (Cod.bxd_rd hb.bx)).over; have k39 := (Cod.bxd_blk hb.bx).frozen 40)
        have ho6 := hb.own_turn ho5 (by decide) (Cod.set_fr w5 P 40 (.slice A5 l'.length c5))
        have fs := Cod.set_fr w5 P 40 (.slice A5 l'.length c5)
        have hd1 := hd0.box hb.BP fs
        have nNP : Nd + 1 ≠ P := Blk.ne (Cod.bxd_blk qe0) (Cod.bxd_blk hb.bx) (by decide)
        have qe1 := Cod.bxd_fr qe0 fs (fun e => nNP e)
        replace hb := hb.set 40 (.slice A5 l'.length c5) _ (seO_Over _ A5 _ c5)
        clear k37 k38 k39 sl ho hg5 ho5 hA5 fs hd0 qe0 nNP qa hd qe
        generalize World.setCell _ _ _ = W3 at hb ho6 hd1 qe1 ⊢
        have qv := Cod.bxd_rd qe1
        have hst := okN.stR_box hb.es va
        simp only [Cod.v] at hst
        have ho7 := hb.own_rdr ho6 (by decide) (hb.rfr va)
        have hb' := hb.rdr hd1
        go_wp2_with fail
        go_roundg (n - (k + 1))
        case measure => omega
        case rel => exact ⟨k + 1, l', sn, va, A5, c5, by simp, rfl, by have := HLT.out; omega, by rw [HL'.out]; simp [HL.out], hmn, hb', ho7, by rw [HL'.out]; exact HT2.out⟩
      · have hor : sk.2 = true ∨ n ≤ k := by
          by_cases hlt : k < n
          · left
            by_cases hs : sk.2 = false
            · exact absurd ⟨hlt, hs⟩ hgo
            · simpa using hs
          · right; omega
        rw [manyT_end rdSt n k l sk hor] at htot
        have hA := HA.out
        rw [htot] at hA
        simp only [List.nil_append] at hA
        obtain ⟨rF, hrF⟩ : ∃ rF : OpW, rF = { r1 with A := A, n := l.length, c := c } := ⟨_, rfl⟩
        obtain ⟨oF, hoF⟩ : ∃ oF : Opn, oF = ⟨(kd : Int), a, nd, zSt, [], d, l⟩ := ⟨_, rfl⟩
        have HF2 := Lib.hid (show sk.2 = false → rdOp0 s = (oF, sk) by
          intro hbd
          have e := hA.2 hbd
          have e1 : l = (rdAll rdSt n s5).1 := congrArg Prod.fst e
          have e2 : sk = (rdAll rdSt n s5).2 := congrArg Prod.snd e
          rw [HF0.out, hoF, e1, e2])
        have HF1 := Lib.hid (show sk.2 = true → rdOp s = (zOp, ([], true)) by
          intro hbd
          unfold rdOp
          rw [HF0.out]
          simp [hA.1 hbd])
        have hin : OpIn wr rF oF := by
          rw [hrF, hoF, R1.out, R0.out]
          exact ⟨rfl, rfl, Sl.own ho, by simp only; omega, by simp [zOpW]⟩
        have hown : wr.ownsRow w.heap.size 69 2 (.slice rF.A rF.n rF.c) rF.n (codS.row oF.Over) := by
          rw [hrF, hoF]
          exact ho
        rw [← hrF] at hb
        obtain ⟨sF, hsF⟩ : ∃ sF : RS, sF = sk := ⟨_, rfl⟩
        obtain ⟨vF, hvF⟩ : ∃ vF : InV, vF = vk := ⟨_, rfl⟩
        rw [← hsF] at HF1 HF2
        rw [← hsF, ← hvF] at hb
        clear hrF hoF ho htot hl hmx hgo hA hvF HF0 HA HT
        have KE := Lib.hid kE
        by_cases hlt : k < n
        · have hb1 : sk.2 = true := by rcases hor with h | h; exact h; omega
          rw [hb1] at kE
          have i1 : (k : Int) < (n : Int) := by omega
          clear hor hlt
          go_upto_region 21 with fail
          clear kE hb1 hsF KE
          have o1 := hb.o1; have o2 := hb.o2; have o3 := hb.o3; have o4 := hb.o4; have oB := hb.hB
          have kE := (nAt (Cod.bxd_rd hb.es)).bad
          rw [hb.inn.bad] at kE
          cases hbad : sF.2 with
          | true =>
            have HQ := Lib.hid (HF1.out hbad)
            rw [hbad] at kE
            clear hbad
            go_upto_region 22 with fail
            have HZ := HR.out
            rw [HQ.out] at HZ
            injection HZ with hx1 hx2
            subst hx1 hx2
            have hrs := okO.stR_box hb.rs zOpW
            simp only [Cod.v] at hrs
            obtain ⟨g1, g2, g3⟩ := Cod.put_fr hb.rs zOpW
            have t3 := Cod.bxd_fr hb.us g1 (fun e => by simp only [oneB] at e; omega)
            have hst := okN.stR_box t3 ⟨none, 0, 0, true⟩
            simp only [Cod.v] at hst
            obtain ⟨k1, k2, k3⟩ := Cod.put_fr t3 ⟨none, 0, 0, true⟩
            have g4 := Cod.bxd_fr g3 k1 (fun e => by simp only [oneB] at e; omega)
            have fo := (hb.fr.step g1 (fun b hb => .inl (by simp only [oneB] at hb; omega))).step k1 (fun b hb => .inl (by simp only [oneB] at hb; omega))
            clear g1 g3 t3 k1 HO HR HF1 HF2 HQ
            go_wp2_with fail
            refine bodyPost_ret (ret_cc okO okN rfl _ _ R (R + 1) _ _ (by first | rfl | (subst hRe; rfl)) (by first | rfl | (subst hRe; rfl)) g4 k3) rfl ?_
            exact ⟨zOpW, _, rfl, ⟨rfl, rfl, Sl.nil _ _, by simp [zOp], by simp [zOpW]⟩, World.ownsRow_nil _ _ _ _, InAt.failed B _, fo⟩
          | false =>
            have HF := Lib.hid (HF2.out hbad)
            rw [hbad] at kE
            have kP := Cod.bxd_rd hb.bx
            have HB := Lib.hid hbad
            clear hbad
            cases hgd : goodOp oF with
            | false =>
              have HQ := Lib.hid (show rdOp s = (zOp, ([], true)) by unfold rdOp; rw [HF.out]; simp [hgd])
              have HG := Lib.hid hgd
              clear hgd
              go_upto_region 22 with (go_at_call 61; refine (r3good_any _ rF oF hin).mono ?_; rintro e wz ⟨rfl, hf⟩; rw [HG.out]; replace hb := hb.new hf)
              clear kE kP hown hin
              have HZ := HR.out
              rw [HQ.out] at HZ
              injection HZ with hx1 hx2
              subst hx1 hx2
              have hrs := okO.stR_box hb.rs zOpW
              simp only [Cod.v] at hrs
              obtain ⟨g1, g2, g3⟩ := Cod.put_fr hb.rs zOpW
              have t3 := Cod.bxd_fr hb.us g1 (fun e => by simp only [oneB] at e; omega)
              have hst := okN.stR_box t3 ⟨none, 0, 0, true⟩
              simp only [Cod.v] at hst
              obtain ⟨k1, k2, k3⟩ := Cod.put_fr t3 ⟨none, 0, 0, true⟩
              have g4 := Cod.bxd_fr g3 k1 (fun e => by simp only [oneB] at e; omega)
              have fo := (hb.fr.step g1 (fun b hb => .inl (by simp only [oneB] at hb; omega))).step k1 (fun b hb => .inl (by simp only [oneB] at hb; omega))
              clear g1 g3 t3 k1 HO HR HF1 HF2 HQ
              go_wp2_with fail
              refine bodyPost_ret (ret_cc okO okN rfl _ _ R (R + 1) _ _ (by first | rfl | (subst hRe; rfl)) (by first | rfl | (subst hRe; rfl)) g4 k3) rfl ?_
              exact ⟨zOpW, _, rfl, ⟨rfl, rfl, Sl.nil _ _, by simp [zOp], by simp [zOpW]⟩, World.ownsRow_nil _ _ _ _, InAt.failed B _, fo⟩
            | true =>
              have HQ := Lib.hid (show rdOp s = (oF, sF) by unfold rdOp; rw [HF.out]; simp [hgd, HB.out])
              have HG := Lib.hid hgd
              clear hgd
              go_upto_region 23 with (go_at_call 61; refine (r3good_any _ rF oF hin).mono ?_; rintro e wg ⟨rfl, hf⟩; rw [HG.out]; replace hb := hb.new hf; replace hin := hin.fr hf; replace hown := own_new0 hown hf; clear hf)
              have HZ := HR.out
              rw [HQ.out] at HZ
              injection HZ with hx1 hx2
              subst hx1 hx2
              clear kE kP HO HR HF1 HF2 HQ HF
              have fd : Fr noB wg wg.drew := (Fr.refl noB wg).drew
              replace hb := hb.new fd
              replace hin := hin.fr fd
              replace hown := own_new0 hown fd
              refine wp_region_M 3 4 [⟨5070602400912917605986812821504, 1024, 0⟩, ⟨10141204801825835211973625643008, 512, 0⟩, ⟨0, 5070602400912917605986812821508, 1⟩, ⟨0, 10141204801825835211973625643016, 7⟩] [(true, 0), (true, 1), (false, 2)] (fun w' => codO.rd w' P 0 = some rF ∧ codN.rd w' E 0 = some vF) (by kernel_rfl) rfl (by kernel_rfl) (by kernel_rfl) (by kernel_rfl) ⟨Cod.bxd_rd hb.bx, Cod.bxd_rd hb.es⟩ (fun hA hF => ?_)
              iterate 2
                refine wpAnyS_take (v := ?_) hA rfl (fun _ _ _ h => h) (Or.inl ⟨by rfl, ?_⟩) hF (fun hA => ?_)
                rotate_left
                · intro wS hSw; (try dsimp only at hSw); obtain ⟨s1, s2⟩ := hSw; first | (apply Eq.trans; apply ex_ld_id; exact rfl; exact rfl; assumption; with_reducible rfl) | (apply Eq.trans; apply ex_ldN_at; exact rfl; exact rfl; assumption; with_reducible rfl) | (apply Eq.trans; apply ex_ldO_at; exact rfl; exact rfl; assumption; with_reducible rfl) | (go_simp; try with_reducible rfl)
                try simp only [List.getElem_toArray, List.getElem_cons_zero, List.getElem_cons_succ, Act.put, List.setIfInBounds_toArray, List.set_cons_zero, List.set_cons_succ]
              refine wpAnyS_one hA rfl (fun K' hK => ?_)
              refine step_skipI rfl _ (ex_stC_at okO rfl rfl rfl hb.rs) ?_
              obtain ⟨g1, g2, g3⟩ := Cod.put_fr hb.rs rF
              refine hK.out _ _ ⟨Cod.rd_fr hF.1 g1 (fun e => by simp only [oneB] at e; omega), Cod.rd_fr hF.2 g1 (fun e => by simp only [oneB] at e; omega)⟩ (fun hA => ?_)
              clear hK K'
              refine wpAnyS_end hA rfl ?_
              simp only [List.drop_succ_cons, List.drop_zero]
              clear hF
              have t3 := Cod.bxd_fr hb.us g1 (fun e => by simp only [oneB] at e; omega)
              have hst := okN.stR_box t3 vF
              simp only [Cod.v] at hst
              obtain ⟨k1, k2, k3⟩ := Cod.put_fr t3 vF
              have g4 := Cod.bxd_fr g3 k1 (fun e => by simp only [oneB] at e; omega)
              have i2 := (hb.inn.box (show B ≤ R by omega) g1).box (show B ≤ R + 1 by omega) k1
              have fo := (hb.fr.step g1 (fun b hb => .inl (by simp only [oneB] at hb; omega))).step k1 (fun b hb => .inl (by simp only [oneB] at hb; omega))
              have hw1 := own_box (Cod.bxd_blk t3) (own_box (Cod.bxd_blk hb.rs) hown (by decide) g1) (by decide) k1
              have hin2 : OpIn (codN.put (codO.put wg.drew R rF) (R + 1) vF) rF oF := ⟨hin.eq, hin.len, Sl.own hw1, hin.bd, hin.nm⟩
              clear g1 g3 t3 k1 hb hin hown fd o1 o2 o3 o4 oB
              go_wp2_with fail
              refine bodyPost_ret (ret_cc okO okN rfl _ _ R (R + 1) _ _ (by first | rfl | (subst hRe; rfl)) (by first | rfl | (subst hRe; rfl)) g4 k3) rfl ?_
              exact ⟨rF, vF, rfl, hin2, hw1, i2, fo⟩
        · have i1 : ¬ (k : Int) < (n : Int) := by omega
          clear hor hlt
          go_upto_region 21 with fail
          clear kE hsF KE
          have o1 := hb.o1; have o2 := hb.o2; have o3 := hb.o3; have o4 := hb.o4; have oB := hb.hB
          have kE := (nAt (Cod.bxd_rd hb.es)).bad
          rw [hb.inn.bad] at kE
          cases hbad : sF.2 with
          | true =>
            have HQ := Lib.hid (HF1.out hbad)
            rw [hbad] at kE
            clear hbad
            go_upto_region 22 with fail
            have HZ := HR.out
            rw [HQ.out] at HZ
            injection HZ with hx1 hx2
            subst hx1 hx2
            have hrs := okO.stR_box hb.rs zOpW
            simp only [Cod.v] at hrs
            obtain ⟨g1, g2, g3⟩ := Cod.put_fr hb.rs zOpW
            have t3 := Cod.bxd_fr hb.us g1 (fun e => by simp only [oneB] at e; omega)
            have hst := okN.stR_box t3 ⟨none, 0, 0, true⟩
            simp only [Cod.v] at hst
            obtain ⟨k1, k2, k3⟩ := Cod.put_fr t3 ⟨none, 0, 0, true⟩
            have g4 := Cod.bxd_fr g3 k1 (fun e => by simp only [oneB] at e; omega)
            have fo := (hb.fr.step g1 (fun b hb => .inl (by simp only [oneB] at hb; omega))).step k1 (fun b hb => .inl (by simp only [oneB] at hb; omega))
            clear g1 g3 t3 k1 HO HR HF1 HF2 HQ
            go_wp2_with fail
            refine bodyPost_ret (ret_cc okO okN rfl _ _ R (R + 1) _ _ (by first | rfl | (subst hRe; rfl)) (by first | rfl | (subst hRe; rfl)) g4 k3) rfl ?_
            exact ⟨zOpW, _, rfl, ⟨rfl, rfl, Sl.nil _ _, by simp [zOp], by simp [zOpW]⟩, World.ownsRow_nil _ _ _ _, InAt.failed B _, fo⟩
          | false =>
            have HF := Lib.hid (HF2.out hbad)
            rw [hbad] at kE
            have kP := Cod.bxd_rd hb.bx
            have HB := Lib.hid hbad
            clear hbad
            cases hgd : goodOp oF with
            | false =>
              have HQ := Lib.hid (show rdOp s = (zOp, ([], true)) by unfold rdOp; rw [HF.out]; simp [hgd])
              have HG := Lib.hid hgd
              clear hgd
              go_upto_region 22 with (go_at_call 61; refine (r3good_any _ rF oF hin).mono ?_; rintro e wz ⟨rfl, hf⟩; rw [HG.out]; replace hb := hb.new hf)
              clear kE kP hown hin
              have HZ := HR.out
              rw [HQ.out] at HZ
              injection HZ with hx1 hx2
              subst hx1 hx2
              have hrs := okO.stR_box hb.rs zOpW
              simp only [Cod.v] at hrs
              obtain ⟨g1, g2, g3⟩ := Cod.put_fr hb.rs zOpW
              have t3 := Cod.bxd_fr hb.us g1 (fun e => by simp only [oneB] at e; omega)
              have hst := okN.stR_box t3 ⟨none, 0, 0, true⟩
              simp only [Cod.v] at hst
              obtain ⟨k1, k2, k3⟩ := Cod.put_fr t3 ⟨none, 0, 0, true⟩
              have g4 := Cod.bxd_fr g3 k1 (fun e => by simp only [oneB] at e; omega)
              have fo := (hb.fr.step g1 (fun b hb => .inl (by simp only [oneB] at hb; omega))).step k1 (fun b hb => .inl (by simp only [oneB] at hb; omega))
              clear g1 g3 t3 k1 HO HR HF1 HF2 HQ
              go_wp2_with fail
              refine bodyPost_ret (ret_cc okO okN rfl _ _ R (R + 1) _ _ (by first | rfl | (subst hRe; rfl)) (by first | rfl | (subst hRe; rfl)) g4 k3) rfl ?_
              exact ⟨zOpW, _, rfl, ⟨rfl, rfl, Sl.nil _ _, by simp [zOp], by simp [zOpW]⟩, World.ownsRow_nil _ _ _ _, InAt.failed B _, fo⟩
            | true =>
              have HQ := Lib.hid (show rdOp s = (oF, sF) by unfold rdOp; rw [HF.out]; simp [hgd, HB.out])
              have HG := Lib.hid hgd
              clear hgd
              go_upto_region 23 with (go_at_call 61; refine (r3good_any _ rF oF hin).mono ?_; rintro e wg ⟨rfl, hf⟩; rw [HG.out]; replace hb := hb.new hf; replace hin := hin.fr hf; replace hown := own_new0 hown hf; clear hf)
              have HZ := HR.out
              rw [HQ.out] at HZ
              injection HZ with hx1 hx2
              subst hx1 hx2
              clear kE kP HO HR HF1 HF2 HQ HF
              have fd : Fr noB wg wg.drew := (Fr.refl noB wg).drew
              replace hb := hb.new fd
              replace hin := hin.fr fd
              replace hown := own_new0 hown fd
              refine wp_region_M 3 4 [⟨5070602400912917605986812821504, 1024, 0⟩, ⟨10141204801825835211973625643008, 512, 0⟩, ⟨0, 5070602400912917605986812821508, 1⟩, ⟨0, 10141204801825835211973625643016, 7⟩] [(true, 0), (true, 1), (false, 2)] (fun w' => codO.rd w' P 0 = some rF ∧ codN.rd w' E 0 = some vF) (by kernel_rfl) rfl (by kernel_rfl) (by kernel_rfl) (by kernel_rfl) ⟨Cod.bxd_rd hb.bx, Cod.bxd_rd hb.es⟩ (fun hA hF => ?_)
              iterate 2
                refine wpAnyS_take (v := ?_) hA rfl (fun _ _ _ h => h) (Or.inl ⟨by rfl, ?_⟩) hF (fun hA => ?_)
                rotate_left
                · intro wS hSw; (try dsimp only at hSw); obtain ⟨s1, s2⟩ := hSw; first | (apply Eq.trans; apply ex_ld_id; exact rfl; exact rfl; assumption; with_reducible rfl) | (apply Eq.trans; apply ex_ldN_at; exact rfl; exact rfl; assumption; with_reducible rfl) | (apply Eq.trans; apply ex_ldO_at; exact rfl; exact rfl; assumption; with_reducible rfl) | (go_simp; try with_reducible rfl)
                try simp only [List.getElem_toArray, List.getElem_cons_zero, List.getElem_cons_succ, Act.put, List.setIfInBounds_toArray, List.set_cons_zero, List.set_cons_succ]
              refine wpAnyS_one hA rfl (fun K' hK => ?_)
              refine step_skipI rfl _ (ex_stC_at okO rfl rfl rfl hb.rs) ?_
              obtain ⟨g1, g2, g3⟩ := Cod.put_fr hb.rs rF
              refine hK.out _ _ ⟨Cod.rd_fr hF.1 g1 (fun e => by simp only [oneB] at e; omega), Cod.rd_fr hF.2 g1 (fun e => by simp only [oneB] at e; omega)⟩ (fun hA => ?_)
              clear hK K'
              refine wpAnyS_end hA rfl ?_
              simp only [List.drop_succ_cons, List.drop_zero]
              clear hF
              have t3 := Cod.bxd_fr hb.us g1 (fun e => by simp only [oneB] at e; omega)
              have hst := okN.stR_box t3 vF
              simp only [Cod.v] at hst
              obtain ⟨k1, k2, k3⟩ := Cod.put_fr t3 vF
              have g4 := Cod.bxd_fr g3 k1 (fun e => by simp only [oneB] at e; omega)
              have i2 := (hb.inn.box (show B ≤ R by omega) g1).box (show B ≤ R + 1 by omega) k1
              have fo := (hb.fr.step g1 (fun b hb => .inl (by simp only [oneB] at hb; omega))).step k1 (fun b hb => .inl (by simp only [oneB] at hb; omega))
              have hw1 := own_box (Cod.bxd_blk t3) (own_box (Cod.bxd_blk hb.rs) hown (by decide) g1) (by decide) k1
              have hin2 : OpIn (codN.put (codO.put wg.drew R rF) (R + 1) vF) rF oF := ⟨hin.eq, hin.len, Sl.own hw1, hin.bd, hin.nm⟩
              clear g1 g3 t3 k1 hb hin hown fd o1 o2 o3 o4 oB
              go_wp2_with fail
              refine bodyPost_ret (ret_cc okO okN rfl _ _ R (R + 1) _ _ (by first | rfl | (subst hRe; rfl)) (by first | rfl | (subst hRe; rfl)) g4 k3) rfl ?_
              exact ⟨rF, vF, rfl, hin2, hw1, i2, fo⟩
end Go.Proofs.YtejkfekpgbmdiaaGreat
