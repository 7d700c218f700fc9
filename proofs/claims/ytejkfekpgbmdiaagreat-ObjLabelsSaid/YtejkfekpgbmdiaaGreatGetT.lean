/- Contract: stamp.Get. Contract: obj.getItem. -/
import Derived.Test.YtejkfekpgbmdiaaGreatRBox
import Derived.Deep.LoopGhost
namespace Go.Proofs.YtejkfekpgbmdiaaGreat
open Go.RowKit
set_option linter.unusedVariables false
set_option linter.unusedSimpArgs false

/-- an operation that was read: its value as it lies in memory, its row of the call's own (or none) -/
def GotO (w : World) (p : Nat) (s : RS) (Q : Nat → Prop) (e : Ending) (w' : World) : Prop :=
  ∃ r, e = .returned (.agg (codO.A r)) ∧ OpIn w' r (rdOp s).1 ∧ w'.ownsRow w.heap.size 69 2 (.slice r.A r.n r.c) r.n (codS.row (rdOp s).1.Over) ∧ Rdr w' p (rdOp s).2 Q ∧ Fr (oneB p) w w'
theorem rdTake_le (n : Nat) (s : RS) : (rdTake n s).1.length ≤ n := by
  unfold rdTake
  split
  · exact Nat.zero_le _
  · simp; omega
theorem rdText_le (most : Nat) (s : RS) : (rdText most s).1.length ≤ most := Nat.le_trans (rdTake_le _ _) (rdNum_bd most s).1
theorem rdAll_len {α : Type} {f : RS → α × RS} (hf : ∀ s, (f s).2.1.length ≤ s.1.length) : ∀ (n : Nat) (s : RS), (rdAll f n s).1.length = n ∧ (rdAll f n s).2.1.length ≤ s.1.length
  | 0, s => ⟨rfl, Nat.le_refl _⟩
  | n + 1, s => by
    have := rdAll_len hf n (f s).2
    simp only [rdAll, List.length_cons]
    exact ⟨by rw [this.1], Nat.le_trans this.2 (hf s)⟩
theorem rdAll_step {α : Type} (f : RS → α × RS) (n : Nat) (l : List α) (s s' : RS) (x : α) (h : f s = (x, s')) : (l ++ (rdAll f (n + 1) s).1, (rdAll f (n + 1) s).2) = ((l ++ [x]) ++ (rdAll f n s').1, (rdAll f n s').2) := by
  simp only [rdAll, h, List.append_assoc, List.singleton_append]
def GoR (M : Nat → Prop) (W : World) (p R P n mx : Nat) (Q : Nat → Prop) (z r : OpW) (tot : List St × RS) (gk : Nat) (iv : Value) (wr : World) : Prop :=
  ∃ (k : Nat) (l : List St) (s : RS) (A : Option Addr) (c : Nat), iv = .int .i64 (k : Int) ∧ gk = n - k ∧ k ≤ n ∧ l.length = k ∧ s.1.length ≤ mx ∧ RB codO M W wr p R P s Q z { r with A := A, n := l.length, c := c } ∧ OwnC codS W wr A c l ∧ tot = (l ++ (rdAll rdSt (n - k) s).1, (rdAll rdSt (n - k) s).2)
set_option maxRecDepth 100000 in
set_option maxHeartbeats 8000000 in
theorem getO_any (w : World) (p : Nat) (s : RS) (Q : Nat → Prop) (h : Rdr w p s Q) (hQw : ∀ b, Q b → b < w.heap.size) (hQp : ¬ Q p) (hlen : s.1.length ≤ 140737488355328) :
    Calls Tryz.prog 64 #[.pointer (some ⟨p, 0, none⟩)] w (GotO w p s Q) := by
  have lp := h.lt
  obtain ⟨kd, s1, e1⟩ := rd_eq (rdNum 2) s
  have b1 := rdNum_bd 2 s
  rw [e1] at b1
  obtain ⟨a, s2, e2⟩ := rd_eq rdSt s1
  have b2 := rdSt_len s1
  rw [e2] at b2
  obtain ⟨nd, s3, e3⟩ := rd_eq rdSt s2
  have b3 := rdSt_len s2
  rw [e3] at b3
  simp only at b1 b2 b3
  have m1 : s1.1.length ≤ 140737488355328 := by omega
  have m2 : s2.1.length ≤ 140737488355328 := by omega
  have m3 : s3.1.length ≤ 140737488355328 := by omega
  have hOp0 : rdOp0 s = if kd = 1 then (⟨(kd : Int), a, nd, (rdSt s3).1, (rdText 60 (rdSt s3).2).1, zID, []⟩, (rdText 60 (rdSt s3).2).2) else
      (⟨(kd : Int), a, nd, zSt, [], (rdId s3).1, (rdAll rdSt (rdNum 64 (rdId s3).2).1 (rdNum 64 (rdId s3).2).2).1⟩, (rdAll rdSt (rdNum 64 (rdId s3).2).1 (rdNum 64 (rdId s3).2).2).2) := by
    unfold rdOp0
    rw [e1]
    dsimp only
    rw [e2]
    dsimp only
    rw [e3]
  have HO := Lib.hid hOp0
  have f0 : Fr noB w (w.alloc (codO.o zOpW)) := (Fr.refl noB w).alloc _
  have h0 : Rdr (w.alloc (codO.o zOpW)) p s Q := h.fr f0 (by simp [noB]) (fun _ _ => by simp [noB])
  have q0 : codO.bxd (w.alloc (codO.o zOpW)) w.heap.size = some zOpW := Cod.bxd_new _ _
  have E1 := Lib.hid e1
  have E2 := Lib.hid e2
  have E3 := Lib.hid e3
  clear e1 e2 e3 b1 b2 b3 h hOp0
  go_enter Tryz.func64, Tryz.ntmps64
  go_upto_region 1 with fail
  generalize w.alloc (codO.o zOpW) = w0 at f0 q0 h0 ⊢
  have hRp : p ≠ w.heap.size := by omega
  have hQR : ∀ b, Q b → b ≠ w.heap.size := fun b hb => by have := hQw b hb; omega
  have hRw : w.heap.size ≤ w.heap.size := Nat.le_refl _
  generalize hRe : w.heap.size = R at q0 hRp hQR ⊢
  rw [hRe] at hRw
  have hRw : w.heap.size ≤ R := by omega
  go_wp2_with fail
  go_at_call 46
  refine (num_z w0 p s Q 2 2 rfl (by decide) h0 hlen kd s1 E1.out).mono ?_
  rintro e w1 ⟨rfl, hr1, hf1⟩
  have q1 := Cod.bxd_fr q0 hf1 (fun e => hRp (by have : R = p := e; exact this.symm))
  have fn : Fr noB w1 (w1.alloc (codO.o { zOpW with Kind := (kd : Int) })) := (Fr.refl noB w1).alloc _
  have hb : RB codO (oneB p) w (w1.alloc (codO.o { zOpW with Kind := (kd : Int) })) p R w1.heap.size s1 Q zOpW { zOpW with Kind := (kd : Int) } :=
    ⟨hr1.fr fn (by simp [noB]) (by simp [noB]), Cod.bxd_fr0 q1 fn, Cod.bxd_new _ _, ((f0.any.trans hf1 (fun b _ h => h)).step0 fn), fun _ => rfl, hRw, Nat.le_trans f0.size hf1.size,
      by have := Cod.bxd_lt q1; omega, hRp, by have := hr1.lt; omega, fun b hb => ⟨hQR b hb, by have := hQw b hb; have := f0.size; have := hf1.size; omega⟩, hQp⟩
  clear hr1 hf1 q0 q1 f0 h0 hRp hQR hRw
  go_upto_region 2 with fail
  generalize w1.alloc (codO.o { zOpW with Kind := (kd : Int) }) = W at hb fn ⊢
  generalize w1.heap.size = P at hb ⊢
  clear fn
  go_upto_region 3 with (go_at_call 105; refine (sget_z _ p _ Q hb.rd (fun b h => Nat.lt_of_lt_of_le (hQw b h) hb.fr.size) m1 _ _ E2.out).mono ?_; rintro e wz ⟨rfl, hr, hf⟩; replace hb := hb.call hr hf; have hst := stO_At hb.bx a; replace hb := hb.put { zOpW with Kind := (kd : Int), At := a }; clear hr hf)
  clear hst
  generalize codO.put wz P { zOpW with Kind := (kd : Int), At := a } = W at hb ⊢
  clear wz
  go_upto_region 4 with (go_at_call 105; refine (sget_z _ p _ Q hb.rd (fun b h => Nat.lt_of_lt_of_le (hQw b h) hb.fr.size) m2 _ _ E3.out).mono ?_; rintro e wz ⟨rfl, hr, hf⟩; replace hb := hb.call hr hf; have hst := stO_Node hb.bx nd; replace hb := hb.put { zOpW with Kind := (kd : Int), At := a, Node := nd }; clear hr hf)
  clear hst
  generalize codO.put wz P { zOpW with Kind := (kd : Int), At := a, Node := nd } = W at hb ⊢
  clear wz
  by_cases hk : kd = 1
  · have k1 : ((kd : Int) == 1) = true := by rw [hk]; rfl
    have hO1 := HO.out
    rw [if_pos hk] at hO1
    obtain ⟨pa, s4, e4⟩ := rd_eq rdSt s3
    have b4 := rdSt_len s3
    rw [e4] at b4 hO1
    obtain ⟨nm, s5, e5⟩ := rd_eq (rdText 60) s4
    have b5 := rdText_le 60 s4
    rw [e5] at b5 hO1
    simp only at b4 b5 hO1
    have m4 : s4.1.length ≤ 140737488355328 := by omega
    have E4 := Lib.hid e4
    have E5 := Lib.hid e5
    have HF := Lib.hid hO1
    clear e4 e5 hO1 hk
    have k2 := (opAt (Cod.bxd_rd hb.bx)).kind
    simp only at k2
    go_upto_region 6 with (go_at_call 105; refine (sget_z _ p _ Q hb.rd (fun b h => Nat.lt_of_lt_of_le (hQw b h) hb.fr.size) m3 _ _ E4.out).mono ?_; rintro e wz ⟨rfl, hr, hf⟩; replace hb := hb.call hr hf; have hst := stO_Parent hb.bx pa; replace hb := hb.put { zOpW with Kind := (kd : Int), At := a, Node := nd, Parent := pa }; clear hr hf)
    clear hst
    generalize codO.put wz P { zOpW with Kind := (kd : Int), At := a, Node := nd, Parent := pa } = W at hb ⊢
    clear wz
    clear k2
    have k3 := (opAt (Cod.bxd_rd hb.bx)).name
    have k4 := (Cod.bxd_blk hb.bx).frozen 7
    go_upto_region 12 with (go_at_call 65; refine (rtext_z _ p _ Q hb.rd hQp m4 60 60 rfl (by decide) _ _ E5.out).mono ?_; rintro e wz ⟨rfl, hr, hf⟩; replace hb := hb.call hr hf; have k3 := (opAt (Cod.bxd_rd hb.bx)).name; have k4 := (Cod.bxd_blk hb.bx).frozen 7)
    replace hb := hb.set 7 (.string (str nm)) { zOpW with Kind := (kd : Int), At := a, Node := nd, Parent := pa, Name := nm } (seO_Name _ nm)
    clear k3 k4
    obtain ⟨rF, hrF⟩ : ∃ rF : OpW, rF = { zOpW with Kind := (kd : Int), At := a, Node := nd, Parent := pa, Name := nm } := ⟨_, rfl⟩
    obtain ⟨oF, hoF⟩ : ∃ oF : Opn, oF = ⟨(kd : Int), a, nd, pa, nm, zID, []⟩ := ⟨_, rfl⟩
    obtain ⟨sF, hsF⟩ : ∃ sF : RS, sF = s5 := ⟨_, rfl⟩
    rw [← hrF] at hb
    rw [← hoF, ← hsF] at HF
    rw [← hsF] at hb
    generalize World.setCell _ _ _ = W at hb ⊢
    have hin : OpIn W rF oF := by
      rw [hrF, hoF]
      exact ⟨rfl, rfl, Sl.nil _ _, by simp, by simpa using (show nm.length ≤ 140737488355328 by omega)⟩
    have hown : W.ownsRow w.heap.size 69 2 (.slice rF.A rF.n rF.c) rF.n (codS.row oF.Over) := by
      rw [hrF, hoF]
      exact World.ownsRow_nil _ _ _ _
    clear hrF hoF hsF hr hf
    have k5 := Cod.bxd_rd hb.bx
    have hrs := okO.stR_box hb.rs zOpW
    have hrs2 := okO.stR_box hb.rs rF
    simp only [Cod.v] at hrs hrs2
    by_cases hbad : sF.2 = true
    · have HR := Lib.hid (show rdOp s = (zOp, ([], true)) by unfold rdOp; rw [HF.out]; simp [hbad])
      go_wp2_with (first
        | (go_at_call 48; refine (good_any _ p _ Q hb.rd).mono ?_; rintro e wz ⟨rfl, rfl⟩; rw [hbad])
        | (go_at_call 87; refine (fail_any _ p _ Q hb.rd).mono ?_; rintro e wz ⟨rfl, hr, hf⟩; replace hb := hb.call hr hf; have hrs := okO.stR_box hb.rs zOpW; simp only [Cod.v] at hrs))
      have hbz := hb.res zOpW
      refine bodyPost_ret (ret_row okO rfl _ _ R zOpW (by rfl) hbz.rs) rfl ?_
      refine ⟨zOpW, rfl, ?_, ?_, ?_, hbz.fr⟩
      · rw [HR.out]
        exact ⟨rfl, rfl, Sl.nil _ _, by simp [zOp], by simp [zOpW]⟩
      · rw [HR.out]
        exact World.ownsRow_nil _ _ _ _
      · rw [HR.out]
        exact hbz.rd
    · have hbad' : sF.2 = false := by simpa using hbad
      by_cases hgd : goodOp oF = true
      · have HR := Lib.hid (show rdOp s = (oF, sF) by unfold rdOp; rw [HF.out]; simp [hbad', hgd])
        go_wp2_with (first
          | (go_at_call 48; refine (good_any _ p _ Q hb.rd).mono ?_; rintro e wz ⟨rfl, rfl⟩; rw [hbad'])
          | (go_at_call 96; refine (sgood_any _ rF oF hin).mono ?_; rintro e wz ⟨rfl, hf⟩; rw [hgd]; replace hb := hb.new hf; replace hin := hin.fr hf; replace hown := own_new0 hown hf; have k5 := Cod.bxd_rd hb.bx; have hrs := okO.stR_box hb.rs zOpW; have hrs2 := okO.stR_box hb.rs rF; simp only [Cod.v] at hrs hrs2))
        have hbz := hb.res rF
        have ffr := (Cod.put_fr hb.rs rF).1
        refine bodyPost_ret (ret_row okO rfl _ _ R rF (by rfl) hbz.rs) rfl ?_
        refine ⟨rF, rfl, ?_, ?_, ?_, hbz.fr⟩
        · rw [HR.out]
          exact ⟨hin.eq, hin.len, Sl.own (own_box (Cod.bxd_blk hb.rs) hown (by decide) ffr), hin.bd, hin.nm⟩
        · rw [HR.out]
          exact own_box (Cod.bxd_blk hb.rs) hown (by decide) ffr
        · rw [HR.out]
          exact hbz.rd
      · have hgd' : goodOp oF = false := by simpa using hgd
        have HR := Lib.hid (show rdOp s = (zOp, ([], true)) by unfold rdOp; rw [HF.out]; simp [hgd'])
        go_wp2_with (first
          | (go_at_call 48; refine (good_any _ p _ Q hb.rd).mono ?_; rintro e wz ⟨rfl, rfl⟩; rw [hbad'])
          | (go_at_call 96; refine (sgood_any _ rF oF hin).mono ?_; rintro e wz ⟨rfl, hf⟩; rw [hgd']; replace hb := hb.new hf)
          | (go_at_call 87; refine (fail_any _ p _ Q hb.rd).mono ?_; rintro e wz ⟨rfl, hr, hf⟩; replace hb := hb.call hr hf; have hrs := okO.stR_box hb.rs zOpW; simp only [Cod.v] at hrs))
        have hbz := hb.res zOpW
        refine bodyPost_ret (ret_row okO rfl _ _ R zOpW (by rfl) hbz.rs) rfl ?_
        refine ⟨zOpW, rfl, ?_, ?_, ?_, hbz.fr⟩
        · rw [HR.out]
          exact ⟨rfl, rfl, Sl.nil _ _, by simp [zOp], by simp [zOpW]⟩
        · rw [HR.out]
          exact World.ownsRow_nil _ _ _ _
        · rw [HR.out]
          exact hbz.rd
  · have k1 : ((kd : Int) == 1) = false := by rw [beq_eq_false_iff_ne]; omega
    have hO1 := HO.out
    rw [if_neg hk] at hO1
    obtain ⟨d, s4, e4⟩ := rd_eq rdId s3
    have b4 := rdId_len s3
    rw [e4] at b4 hO1
    obtain ⟨n, s5, e5⟩ := rd_eq (rdNum 64) s4
    have b5 := rdNum_bd 64 s4
    rw [e5] at b5 hO1
    simp only at b4 b5 hO1
    have m4 : s4.1.length ≤ 140737488355328 := by omega
    have m5 : s5.1.length ≤ 140737488355328 := by omega
    have n64 : n ≤ 64 := b5.1
    obtain ⟨tot, htot⟩ : ∃ tot, tot = rdAll rdSt n s5 := ⟨_, rfl⟩
    rw [← htot] at hO1
    have E4 := Lib.hid e4
    have E5 := Lib.hid e5
    have HF0 := Lib.hid hO1
    have HT := Lib.hid htot
    clear e4 e5 hO1 hk b4 b5 htot
    have k2 := (opAt (Cod.bxd_rd hb.bx)).kind
    simp only at k2
    go_upto_region 8 with (go_at_call 63; refine (rid_z _ p _ Q hb.rd hQp (fun b h => Nat.lt_of_lt_of_le (hQw b h) hb.fr.size) m3 _ _ E4.out).mono ?_; rintro e wz ⟨rfl, hr, hf⟩; replace hb := hb.call hr hf; have hst := stO_Data hb.bx d; replace hb := hb.put { zOpW with Kind := (kd : Int), At := a, Node := nd, Data := d }; clear hr hf)
    clear hst k2
    generalize hr0 : ({ zOpW with Kind := (kd : Int), At := a, Node := nd, Data := d } : OpW) = r0 at hb ⊢
    have R0 := Lib.hid hr0.symm
    clear hr0
    generalize codO.put wz P r0 = W at hb ⊢
    clear wz
    go_wp2_with (go_at_call 46; refine (num_z _ p _ Q 64 64 rfl (by decide) hb.rd m4 n s5 E5.out).mono ?_; rintro e wz ⟨rfl, hr, hf⟩; replace hb := hb.call hr hf; clear hr hf)
    go_loopg [27] n (fun gk iv wr => GoR (oneB p) w p R P n 140737488355328 Q zOpW r0 tot gk iv wr)
    case atStart => exact ⟨0, [], s5, none, 0, rfl, by omega, by omega, rfl, m5, by
      have e : ({ r0 with A := none, n := ([] : List St).length, c := 0 } : OpW) = r0 := by rw [R0.out]; rfl
      rw [e]; exact hb, World.ownsRow_nil _ _ _ _, by rw [HT.out]; simp⟩
    case round =>
      obtain ⟨k, l, sk, A, c, rfl, rfl, hk, hl, hmx, hb, ho, htot⟩ := hrel
      by_cases hlt : k < n
      · have i1 : (k : Int) < (n : Int) := by omega
        obtain ⟨x, sn, ex⟩ := rd_eq rdSt sk
        have hmn : sn.1.length ≤ 140737488355328 := by
          have := rdSt_len sk
          rw [ex] at this
          exact Nat.le_trans this hmx
        have EX := Lib.hid ex
        have HT2 := Lib.hid (show tot = ((l ++ [x]) ++ (rdAll rdSt (n - (k + 1)) sn).1, (rdAll rdSt (n - (k + 1)) sn).2) by
          rw [htot, show n - k = n - (k + 1) + 1 by omega]; exact rdAll_step _ _ _ _ _ _ ex)
        have HL := Lib.hid hl
        clear ex htot hl
        go_wp2_with fail
        have hbs0 : Fr noB wr wr.drew := (Fr.refl noB wr).drew
        replace hb := hb.new hbs0
        replace ho := own_new0 ho hbs0
        have hF0 := (opAt (Cod.bxd_rd hb.bx)).over
        refine wp_region_M 7 8 [⟨536870912, 8, 0⟩, ⟨1073741824, 536870912, 1⟩, ⟨2147483648, 1, 0⟩, ⟨4294967296, 2147483648, 4⟩, ⟨8589934592, 4294967296, 8⟩, ⟨17179869184, 9663676416, 26⟩, ⟨34359738368, 8, 63⟩, ⟨0, 51539607552, 127⟩] [(true, 0), (true, 1), (true, 2), (false, 3), (false, 4), (false, 5), (true, 6)] (fun w' => w'.cell? ⟨P, 40, none⟩ = some (.slice A l.length c)) (by kernel_rfl) rfl (by kernel_rfl) (by kernel_rfl) (by kernel_rfl) hF0 (fun hA hF => ?_)
        clear hF0
        iterate 3
          refine wpAnyS_take (v := ?_) hA rfl (fun _ _ _ h => h) (Or.inl ⟨by rfl, ?_⟩) hF (fun hA => ?_)
          rotate_left
          · intro wS hSw; (try dsimp only at hSw); obtain s1 := hSw; first | (apply Eq.trans; apply ex_ld_id; exact rfl; exact rfl; assumption; with_reducible rfl) | (go_simp; try with_reducible rfl)
          try simp only [List.getElem_toArray, List.getElem_cons_zero, List.getElem_cons_succ, Act.put, List.setIfInBounds_toArray, List.set_cons_zero, List.set_cons_succ]
        refine wpAnyS_one hA rfl (fun K' hK => ?_)
        go_simp
        go_at_call 105
        refine (sget_z _ p _ Q hb.rd (fun b h => Nat.lt_of_lt_of_le (hQw b h) hb.fr.size) hmx _ _ EX.out).mono ?_
        rintro e wz ⟨rfl, hr, hf⟩
        have ho2 := hb.own_call ho (by decide) hf
        replace hb := hb.call hr hf
        replace hF := (opAt (Cod.bxd_rd hb.bx)).over
        refine hK.out _ _ hF (fun hA => ?_)
        clear hK K'
        as_aux_lemma =>
        refine wpAnyS_one hA rfl (fun K' hK => ?_)
        refine step_runI rfl _ _ (ex_bsS_at (x := x) rfl rfl) ?_
        have fn : Fr noB wz (wz.alloc (codS.ro [x])) := (Fr.refl noB wz).alloc _
        have sl := Cod.sl_new (C := codS) wz [x]
        replace hb := hb.new fn
        have ho3 := own_new0 ho2 fn
        replace hF := (opAt (Cod.bxd_rd hb.bx)).over
        refine hK.out _ _ hF (fun hA => ?_)
        clear hK K'
        as_aux_lemma =>
        refine wpAnyS_one hA rfl (fun K' hK => ?_)
        refine step_appC' etS w _ rfl _ _ rfl A l.length c l rfl rfl ho3 (some ⟨wz.heap.size, 0, none⟩) 1 1 [x] rfl sl rfl (by have := HL.out; simp; omega) hb.fr.size ?_
        intro A5 c5 w5 hc5 hm5 ho5 hg5 hA5
        replace hb := hb.grow ho3 (by decide) (by decide) (fun b hb' e => by
          have h1 := (ho3.lt b (by rw [ownBlock_sl']; exact e)).1
          have h2 := hQw b hb'
          omega) hg5
        obtain ⟨l', hl'⟩ : ∃ l', l' = l ++ [x] := ⟨_, rfl⟩
        rw [← hl'] at ho5 ⊢
        have HL' := Lib.hid hl'
        clear hl'
        replace hF := (opAt (Cod.bxd_rd hb.bx)).over
        refine hK.out _ _ hF (fun hA => ?_)
        clear hK K'
        as_aux_lemma =>
        refine wpAnyS_take (v := ?_) hA rfl (fun _ _ _ h => h) (Or.inl ⟨by rfl, ?_⟩) hF (fun hA => ?_)
        rotate_left
        · intro wS hSw; (try dsimp only at hSw); obtain s1 := hSw; first | (apply Eq.trans; apply ex_ld_id; exact rfl; exact rfl; assumption; with_reducible rfl) | (go_simp; try with_reducible rfl)
        try simp only [List.getElem_toArray, List.getElem_cons_zero, List.getElem_cons_succ, Act.put, List.setIfInBounds_toArray, List.set_cons_zero, List.set_cons_succ]
        refine wpAnyS_end hA rfl ?_
        simp only [List.drop_succ_cons, List.drop_zero]
        have k4 := (Cod.bxd_blk hb.bx).frozen 40
        go_wp2_with fail
        go_roundg (n - (k + 1))
        case measure => omega
        case rel =>
          have hb' := hb.set 40 (.slice A5 l'.length c5) _ (seO_Over _ A5 _ c5)
          have ho6 := hb.own_turn ho5 (by decide) (Cod.set_fr w5 P 40 (.slice A5 l'.length c5))
          exact ⟨k + 1, l', sn, A5, c5, by simp, rfl, by omega, by rw [HL'.out]; simp [HL.out], hmn, hb', ho6, by rw [HL'.out]; exact HT2.out⟩
      · have hkn : k = n := by omega
        subst hkn
        have i1 : ¬ (k : Int) < (k : Int) := by omega
        rw [Nat.sub_self] at htot
        simp only [rdAll, List.append_nil] at htot
        obtain ⟨rF, hrF⟩ : ∃ rF : OpW, rF = { r0 with A := A, n := l.length, c := c } := ⟨_, rfl⟩
        obtain ⟨oF, hoF⟩ : ∃ oF : Opn, oF = ⟨(kd : Int), a, nd, zSt, [], d, l⟩ := ⟨_, rfl⟩
        obtain ⟨sF, hsF⟩ : ∃ sF : RS, sF = sk := ⟨_, rfl⟩
        have HF := Lib.hid (show rdOp0 s = (oF, sF) by rw [HF0.out, htot, hoF, hsF])
        rw [← hsF] at hb
        have hin : OpIn wr rF oF := by
          rw [hrF, hoF, R0.out]
          exact ⟨rfl, rfl, Sl.own ho, by simp only; omega, by simp [zOpW]⟩
        have hown : wr.ownsRow w.heap.size 69 2 (.slice rF.A rF.n rF.c) rF.n (codS.row oF.Over) := by
          rw [hrF, hoF]
          exact ho
        rw [← hrF] at hb
        clear hrF hoF hsF ho htot hl hmx
        generalize wr = W at hb hin hown ⊢
        have k5 := Cod.bxd_rd hb.bx
        have hrs := okO.stR_box hb.rs zOpW
        have hrs2 := okO.stR_box hb.rs rF
        simp only [Cod.v] at hrs hrs2
        by_cases hbad : sF.2 = true
        · have HR := Lib.hid (show rdOp s = (zOp, ([], true)) by unfold rdOp; rw [HF.out]; simp [hbad])
          go_wp2_with (first
            | (go_at_call 48; refine (good_any _ p _ Q hb.rd).mono ?_; rintro e wz ⟨rfl, rfl⟩; rw [hbad])
            | (go_at_call 87; refine (fail_any _ p _ Q hb.rd).mono ?_; rintro e wz ⟨rfl, hr, hf⟩; replace hb := hb.call hr hf; have hrs := okO.stR_box hb.rs zOpW; simp only [Cod.v] at hrs))
          have hbz := hb.res zOpW
          refine bodyPost_ret (ret_row okO rfl _ _ R zOpW (by rfl) hbz.rs) rfl ?_
          refine ⟨zOpW, rfl, ?_, ?_, ?_, hbz.fr⟩
          · rw [HR.out]
            exact ⟨rfl, rfl, Sl.nil _ _, by simp [zOp], by simp [zOpW]⟩
          · rw [HR.out]
            exact World.ownsRow_nil _ _ _ _
          · rw [HR.out]
            exact hbz.rd
        · have hbad' : sF.2 = false := by simpa using hbad
          by_cases hgd : goodOp oF = true
          · have HR := Lib.hid (show rdOp s = (oF, sF) by unfold rdOp; rw [HF.out]; simp [hbad', hgd])
            go_wp2_with (first
              | (go_at_call 48; refine (good_any _ p _ Q hb.rd).mono ?_; rintro e wz ⟨rfl, rfl⟩; rw [hbad'])
              | (go_at_call 96; refine (sgood_any _ rF oF hin).mono ?_; rintro e wz ⟨rfl, hf⟩; rw [hgd]; replace hb := hb.new hf; replace hin := hin.fr hf; replace hown := own_new0 hown hf; have k5 := Cod.bxd_rd hb.bx; have hrs := okO.stR_box hb.rs zOpW; have hrs2 := okO.stR_box hb.rs rF; simp only [Cod.v] at hrs hrs2))
            have hbz := hb.res rF
            have ffr := (Cod.put_fr hb.rs rF).1
            refine bodyPost_ret (ret_row okO rfl _ _ R rF (by rfl) hbz.rs) rfl ?_
            refine ⟨rF, rfl, ?_, ?_, ?_, hbz.fr⟩
            · rw [HR.out]
              exact ⟨hin.eq, hin.len, Sl.own (own_box (Cod.bxd_blk hb.rs) hown (by decide) ffr), hin.bd, hin.nm⟩
            · rw [HR.out]
              exact own_box (Cod.bxd_blk hb.rs) hown (by decide) ffr
            · rw [HR.out]
              exact hbz.rd
          · have hgd' : goodOp oF = false := by simpa using hgd
            have HR := Lib.hid (show rdOp s = (zOp, ([], true)) by unfold rdOp; rw [HF.out]; simp [hgd'])
            go_wp2_with (first
              | (go_at_call 48; refine (good_any _ p _ Q hb.rd).mono ?_; rintro e wz ⟨rfl, rfl⟩; rw [hbad'])
              | (go_at_call 96; refine (sgood_any _ rF oF hin).mono ?_; rintro e wz ⟨rfl, hf⟩; rw [hgd']; replace hb := hb.new hf)
              | (go_at_call 87; refine (fail_any _ p _ Q hb.rd).mono ?_; rintro e wz ⟨rfl, hr, hf⟩; replace hb := hb.call hr hf; have hrs := okO.stR_box hb.rs zOpW; simp only [Cod.v] at hrs))
            have hbz := hb.res zOpW
            refine bodyPost_ret (ret_row okO rfl _ _ R zOpW (by rfl) hbz.rs) rfl ?_
            refine ⟨zOpW, rfl, ?_, ?_, ?_, hbz.fr⟩
            · rw [HR.out]
              exact ⟨rfl, rfl, Sl.nil _ _, by simp [zOp], by simp [zOpW]⟩
            · rw [HR.out]
              exact World.ownsRow_nil _ _ _ _
            · rw [HR.out]
              exact hbz.rd
end Go.Proofs.YtejkfekpgbmdiaaGreat
namespace Go.Proofs.YtejkfekpgbmdiaaGreat
open Go.RowKit
set_option linter.unusedVariables false
set_option linter.unusedSimpArgs false

/-- one more block of the call's own was turned -/
theorem RB.other {α : Type} {C : Cod α} {M : Nat → Prop} {W w w' : World} {p R P H : Nat} {s : RS} {Q : Nat → Prop} {z r : α} (h : RB C M W w p R P s Q z r) (f : Fr (oneB H) w w') (hH : W.heap.size ≤ H) (n1 : p ≠ H) (n2 : R ≠ H) (n3 : P ≠ H) (n4 : ∀ b, Q b → b ≠ H) : RB C M W w' p R P s Q z r :=
  ⟨h.rd.fr f n1 n4, Cod.bxd_fr h.rs f n2, Cod.bxd_fr h.bx f n3, h.fr.step1 f hH, h.mp, h.RW, h.PW, h.ne1, h.ne2, h.ne3, h.q1, h.qp⟩
theorem own_lt {w : World} {base : Nat} {e : TypeId} {size n c : Nat} {A : Option Addr} {xs : List Value} (h : w.ownsRow base e size (.slice A n c) n xs) (g : Nat) (hg : A.map (·.block) = some g) : base ≤ g ∧ g < w.heap.size := by
  have := h.lt g (by rw [ownBlock_sl']; exact hg)
  exact this
/-- an item that was read -/
def GotT (w : World) (p : Nat) (s : RS) (Q : Nat → Prop) (e : Ending) (w' : World) : Prop :=
  ∃ r, e = .returned (.agg (codT.A r)) ∧ ItIn w' r (rdIt s).1 ∧ w'.ownsRow w.heap.size 84 34 (.slice r.A r.n r.c) r.n (codH.row (rdIt s).1.Heads) ∧ Rdr w' p (rdIt s).2 Q ∧ Fr (oneB p) w w'
theorem rdHd_len (s : RS) : (rdHd s).2.1.length ≤ s.1.length := Nat.le_trans (rdId_len _) (rdSt_len _)
theorem rdMany_len {α : Type} {f : RS → α × RS} (hf : ∀ s, (f s).2.1.length ≤ s.1.length) : ∀ (n : Nat) (s : RS), (rdMany f n s).1.length ≤ n ∧ (rdMany f n s).2.1.length ≤ s.1.length
  | 0, s => ⟨Nat.le_refl _, Nat.le_refl _⟩
  | n + 1, s => by
    have := rdMany_len hf n (f s).2
    simp only [rdMany]
    split
    · exact ⟨by simp, hf s⟩
    · exact ⟨by simp only [List.length_cons]; omega, Nat.le_trans this.2 (hf s)⟩
theorem rdMany_step {α : Type} (f : RS → α × RS) (n : Nat) (l : List α) (s s' : RS) (x : α) (h : f s = (x, s')) (hb : s'.2 = false) : (l ++ (rdMany f (n + 1) s).1, (rdMany f (n + 1) s).2) = ((l ++ [x]) ++ (rdMany f n s').1, (rdMany f n s').2) := by
  simp only [rdMany, h, hb, Bool.false_eq_true, if_false, List.append_assoc, List.singleton_append]
theorem rdMany_stop {α : Type} (f : RS → α × RS) (n : Nat) (l : List α) (s s' : RS) (x : α) (h : f s = (x, s')) (hb : s'.2 = true) : (l ++ (rdMany f (n + 1) s).1, (rdMany f (n + 1) s).2) = (l ++ [x], s') := by
  simp only [rdMany, h, hb, if_true]
def GtR (M : Nat → Prop) (W : World) (p R P n mx : Nat) (Q : Nat → Prop) (z r : ItW) (tot : List Hd × RS) (gk : Nat) (iv : Value) (wr : World) : Prop :=
  ∃ (k : Nat) (l : List Hd) (s : RS) (A : Option Addr) (c : Nat), iv = .int .i64 (k : Int) ∧ gk = n - k ∧ k ≤ n ∧ l.length = k ∧ s.1.length ≤ mx ∧ RB codT M W wr p R P s Q z { r with A := A, n := l.length, c := c } ∧ OwnC codH W wr A c l ∧ tot = (l ++ (rdMany rdHd (n - k) s).1, (rdMany rdHd (n - k) s).2)
set_option maxRecDepth 100000 in
set_option maxHeartbeats 8000000 in
theorem getT_any (w : World) (p : Nat) (s : RS) (Q : Nat → Prop) (h : Rdr w p s Q) (hQw : ∀ b, Q b → b < w.heap.size) (hQp : ¬ Q p) (hlen : s.1.length ≤ 140737488355328) :
    Calls Tryz.prog 47 #[.pointer (some ⟨p, 0, none⟩)] w (GotT w p s Q) := by
  have lp := h.lt
  obtain ⟨nd, s1, e1⟩ := rd_eq rdSt s
  have b1 := rdSt_len s
  rw [e1] at b1
  obtain ⟨a, s2, e2⟩ := rd_eq rdSt s1
  have b2 := rdSt_len s1
  rw [e2] at b2
  obtain ⟨nm, s3, e3⟩ := rd_eq (rdText 60) s2
  have b3 := rdText_len 60 s2
  have c3 := rdText_le 60 s2
  rw [e3] at b3 c3
  obtain ⟨sb, s4, e4⟩ := rd_eq rdId s3
  have b4 := rdId_len s3
  rw [e4] at b4
  obtain ⟨n, s5, e5⟩ := rd_eq (rdNum 1000) s4
  have b5 := rdNum_bd 1000 s4
  rw [e5] at b5
  simp only at b1 b2 b3 b4 b5 c3
  have m1 : s1.1.length ≤ 140737488355328 := by omega
  have m2 : s2.1.length ≤ 140737488355328 := by omega
  have m3 : s3.1.length ≤ 140737488355328 := by omega
  have m4 : s4.1.length ≤ 140737488355328 := by omega
  have m5 : s5.1.length ≤ 140737488355328 := by omega
  have n64 : n ≤ 1000 := b5.1
  obtain ⟨tot, htot⟩ : ∃ tot, tot = rdMany rdHd n s5 := ⟨_, rfl⟩
  have hIt : rdIt s = (⟨nd, a, nm, sb, tot.1⟩, tot.2) := by
    unfold rdIt
    rw [e1]
    dsimp only
    rw [e2]
    dsimp only
    rw [e3]
    dsimp only
    rw [e4]
    dsimp only
    rw [e5]
    dsimp only
    rw [htot]
  have HI := Lib.hid hIt
  have HT := Lib.hid htot
  have C3 := Lib.hid c3
  have f0 : Fr noB w (w.alloc (codT.o zItW)) := (Fr.refl noB w).alloc _
  have h0 : Rdr (w.alloc (codT.o zItW)) p s Q := h.fr f0 (by simp [noB]) (fun _ _ => by simp [noB])
  have q0 : codT.bxd (w.alloc (codT.o zItW)) w.heap.size = some zItW := Cod.bxd_new _ _
  have E1 := Lib.hid e1
  have E2 := Lib.hid e2
  have E3 := Lib.hid e3
  have E4 := Lib.hid e4
  have E5 := Lib.hid e5
  clear e1 e2 e3 e4 e5 b1 b2 b3 b4 b5 c3 h hIt htot
  go_enter Tryz.func47, Tryz.ntmps47
  go_upto_region 1 with fail
  generalize w.alloc (codT.o zItW) = w0 at f0 q0 h0 ⊢
  have hRp : p ≠ w.heap.size := by omega
  have hQR : ∀ b, Q b → b ≠ w.heap.size := fun b hb => by have := hQw b hb; omega
  generalize hRe : w.heap.size = R at q0 hRp hQR ⊢
  have hRw : w.heap.size ≤ R := by omega
  have hQ0 : ∀ b, Q b → b < w0.heap.size := fun b h => Nat.lt_of_lt_of_le (hQw b h) f0.size
  go_wp2_with fail
  go_at_call 89
  refine (oget_z w0 p s Q h0 hQ0 hlen nd s1 E1.out).mono ?_
  rintro e w1 ⟨rfl, hr1, hf1⟩
  have q1 := Cod.bxd_fr q0 hf1 (fun e => hRp (by have : R = p := e; exact this.symm))
  have fn : Fr noB w1 (w1.alloc (codT.o { zItW with Node := nd })) := (Fr.refl noB w1).alloc _
  have hb : RB codT (oneB p) w (w1.alloc (codT.o { zItW with Node := nd })) p R w1.heap.size s1 Q zItW { zItW with Node := nd } :=
    ⟨hr1.fr fn (by simp [noB]) (by simp [noB]), Cod.bxd_fr0 q1 fn, Cod.bxd_new _ _, ((f0.any.trans hf1 (fun b _ h => h)).step0 fn), fun _ => rfl, hRw, Nat.le_trans f0.size hf1.size,
      by have := Cod.bxd_lt q1; omega, hRp, by have := hr1.lt; omega, fun b hb => ⟨hQR b hb, by have := hQ0 b hb; have := hf1.size; omega⟩, hQp⟩
  clear hr1 hf1 q0 q1 f0 h0 hRp hQR hRw
  go_upto_region 2 with fail
  generalize w1.alloc (codT.o { zItW with Node := nd }) = W at hb fn ⊢
  generalize w1.heap.size = P at hb ⊢
  clear fn
  go_upto_region 3 with (go_at_call 89; refine (oget_z _ p _ Q hb.rd (fun b h => Nat.lt_of_lt_of_le (hQw b h) hb.fr.size) m1 _ _ E2.out).mono ?_; rintro e wz ⟨rfl, hr, hf⟩; replace hb := hb.call hr hf; have hst := stT_At hb.bx a; replace hb := hb.put { zItW with Node := nd, At := a }; clear hr hf)
  clear hst
  generalize codT.put wz P _ = W at hb ⊢
  have k3 := (itAt (Cod.bxd_rd hb.bx)).name
  have k4 := (Cod.bxd_blk hb.bx).frozen 4
  go_upto_region 4 with (go_at_call 65; refine (rtext_z _ p _ Q hb.rd hQp m2 60 60 rfl (by decide) _ _ E3.out).mono ?_; rintro e wz ⟨rfl, hr, hf⟩; replace hb := hb.call hr hf; have k3 := (itAt (Cod.bxd_rd hb.bx)).name; have k4 := (Cod.bxd_blk hb.bx).frozen 4)
  replace hb := hb.set 4 (.string (str nm)) { zItW with Node := nd, At := a, Name := nm } (seT_Name _ nm)
  clear k3 k4
  generalize World.setCell _ _ _ = W at hb ⊢
  go_upto_region 5 with (go_at_call 63; refine (rid_z _ p _ Q hb.rd hQp (fun b h => Nat.lt_of_lt_of_le (hQw b h) hb.fr.size) m3 _ _ E4.out).mono ?_; rintro e wz ⟨rfl, hr, hf⟩; replace hb := hb.call hr hf; have hst := stT_Sub hb.bx sb; replace hb := hb.put { zItW with Node := nd, At := a, Name := nm, Sub := sb }; clear hr hf)
  clear hst
  generalize hr0 : ({ zItW with Node := nd, At := a, Name := nm, Sub := sb } : ItW) = r0 at hb ⊢
  have R0 := Lib.hid hr0.symm
  clear hr0
  generalize codT.put _ P r0 = W at hb ⊢
  go_wp2_with (go_at_call 46; refine (num_z _ p _ Q 1000 1000 rfl (by decide) hb.rd m4 n s5 E5.out).mono ?_; rintro e wz ⟨rfl, hr, hf⟩; replace hb := hb.call hr hf; clear hr hf)
  go_loopg [19] n (fun gk iv wr => GtR (oneB p) w p R P n 140737488355328 Q zItW r0 tot gk iv wr)
  case atStart => exact ⟨0, [], s5, none, 0, rfl, by omega, by omega, rfl, m5, by
    have e : ({ r0 with A := none, n := ([] : List Hd).length, c := 0 } : ItW) = r0 := by rw [R0.out]; rfl
    rw [e]; exact hb, World.ownsRow_nil _ _ _ _, by rw [HT.out]; simp⟩
  case round =>
    obtain ⟨k, l, sk, A, c, rfl, rfl, hk, hl, hmx, hb, ho, htot⟩ := hrel
    by_cases hlt : k < n
    · have i1 : (k : Int) < (n : Int) := by omega
      obtain ⟨xa, sa, ea⟩ := rd_eq rdSt sk
      have ba := rdSt_len sk
      rw [ea] at ba
      obtain ⟨xd, sn, ed⟩ := rd_eq rdId sa
      have bd := rdId_len sa
      rw [ed] at bd
      simp only at ba bd
      have hma : sa.1.length ≤ 140737488355328 := Nat.le_trans ba hmx
      have hmn : sn.1.length ≤ 140737488355328 := Nat.le_trans bd hma
      obtain ⟨x, hx⟩ : ∃ x : Hd, x = { zHd with At := xa, Data := xd } := ⟨_, rfl⟩
      have ex : rdHd sk = (x, sn) := by
        unfold rdHd
        rw [ea]
        dsimp only
        rw [ed, hx]
      have EA := Lib.hid ea
      have ED := Lib.hid ed
      have EX := Lib.hid ex
      have HT2 := Lib.hid htot
      have HL := Lib.hid hl
      have HX := Lib.hid hx
      clear ex htot hl ea ed ba bd hx
      go_upto_region 8 with (go_at_call 89; refine (oget_z _ p _ Q hb.rd (fun b h => Nat.lt_of_lt_of_le (hQw b h) hb.fr.size) hmx _ _ EA.out).mono ?_; rintro e wz ⟨rfl, hr, hf⟩; replace ho := hb.own_call ho (by decide) hf; replace hb := hb.call hr hf; clear hr hf)
      have fn : Fr noB wz (wz.alloc (codH.o { zHd with At := xa })) := (Fr.refl noB wz).alloc _
      have hH : codH.bxd (wz.alloc (codH.o { zHd with At := xa })) wz.heap.size = some { zHd with At := xa } := Cod.bxd_new _ _
      have nA : ∀ g, A.map (·.block) = some g → g ≠ wz.heap.size := fun g hg => by have := (own_lt ho g hg).2; omega
      have n1 : p ≠ wz.heap.size := by have := hb.rd.lt; omega
      have n2 : R ≠ wz.heap.size := by have := Cod.bxd_lt hb.rs; omega
      have n3 : P ≠ wz.heap.size := by have := Cod.bxd_lt hb.bx; omega
      have n4 : ∀ b, Q b → b ≠ wz.heap.size := fun b hb' => by have := hQw b hb'; have := hb.fr.size; omega
      have n5 : w.heap.size ≤ wz.heap.size := hb.fr.size
      replace hb := hb.new fn
      replace ho := own_new0 ho fn
      clear fn
      generalize wz.alloc (codH.o { zHd with At := xa }) = W1 at hb ho hH ⊢
      generalize wz.heap.size = H at nA n1 n2 n3 n4 n5 hH ⊢
      go_upto_region 9 with (go_at_call 63; refine (rid_z _ p _ Q hb.rd hQp (fun b h => Nat.lt_of_lt_of_le (hQw b h) hb.fr.size) hma _ _ ED.out).mono ?_; rintro e wz ⟨rfl, hr, hf⟩; replace ho := hb.own_call ho (by decide) hf; replace hb := hb.call hr hf; replace hH := Cod.bxd_fr hH hf (fun e => n1 (by have : H = p := e; exact this.symm)); have hst := stH_Data hH xd; clear hr hf)
      clear hst
      obtain ⟨g1, g2, g3⟩ := Cod.put_fr hH { zHd with At := xa, Data := xd }
      replace hb := hb.other g1 n5 n1 n2 n3 n4
      replace ho := own_fr ho g1 (fun g hg e => nA g (by rw [ownBlock_sl'] at hg; exact hg) e)
      clear g1 g2 hH
      have hHx := HX.out
      rw [show ({ zHd with At := xa, Data := xd } : Hd) = x from hHx.symm] at hb ho g3 ⊢
      clear hHx
      generalize codH.put _ H x = W2 at hb ho g3 ⊢
      have kH := Cod.bxd_rd g3
      have k37 := (itAt (Cod.bxd_rd hb.bx)).heads
      have fn : Fr noB W2 (W2.alloc (codH.ro [x])) := (Fr.refl noB W2).alloc _
      have sl := Cod.sl_new (C := codH) W2 [x]
      replace hb := hb.new fn
      replace ho := own_new0 ho fn
      clear fn g3
      have HLT := Lib.hid hlt
      have hqA : ∀ b, Q b → A.map (·.block) ≠ some b := fun b hb' e => by
        have h1 := (own_lt ho b e).1
        have h2 := hQw b hb'
        omega
      clear hlt
      go_upto_region 10 with (at_builtin; refine wpList_appC' etH w _ rfl _ _ rfl A l.length c l rfl rfl ho (some ⟨W2.heap.size, 0, none⟩) 1 1 [x] rfl sl rfl (by have := HL.out; have := HLT.out; simp; omega) hb.fr.size ?_; intro A5 c5 w5 hc5 hm5 ho5 hg5 hA5; replace hb := hb.grow ho (by decide) (by decide) hqA hg5; obtain ⟨l', hl'⟩ : ∃ l', l' = l ++ [x] := ⟨_, rfl⟩; rw [← hl'] at ho5 ⊢; have HL' := Lib.hid hl'; clear hl'; have k38 := (itAt (Cod.bxd_rd hb.bx)).heads; have k39 := (Cod.bxd_blk hb.bx).frozen 37)
      have ho6 := hb.own_turn ho5 (by decide) (Cod.set_fr w5 P 37 (.slice A5 l'.length c5))
      replace hb := hb.set 37 (.slice A5 l'.length c5) _ (seT_Heads _ A5 _ c5)
      clear k37 k38 k39 kH sl ho hg5 ho5 hA5
      generalize World.setCell _ _ _ = W3 at hb ho6 ⊢
      have hll : l'.length = k + 1 := by rw [HL'.out]; simp [HL.out]
      have hlt := HLT.out
      by_cases hgb : sn.2 = true
      · have HR := Lib.hid (show rdIt s = (⟨nd, a, nm, sb, l'⟩, sn) by
          rw [HI.out, HT2.out, show n - k = n - (k + 1) + 1 by omega, rdMany_stop _ _ _ _ _ _ EX.out hgb, HL'.out])
        obtain ⟨rF, hrF⟩ : ∃ rF : ItW, rF = { r0 with A := A5, n := l'.length, c := c5 } := ⟨_, rfl⟩
        have hin : ItIn W3 rF ⟨nd, a, nm, sb, l'⟩ := by
          rw [hrF, R0.out]
          exact ⟨rfl, rfl, Sl.own ho6, by simp only; omega, by have := C3.out; simp only; omega⟩
        have hown : (W3).ownsRow w.heap.size 84 34 (.slice rF.A rF.n rF.c) rF.n (codH.row l') := by
          rw [hrF]
          exact ho6
        have hbF := hb
        rw [← hrF] at hbF
        have k5 := Cod.bxd_rd hbF.bx
        have hrs2 := okT.stR_box hbF.rs rF
        simp only [Cod.v] at hrs2
        clear hrF hll
        go_wp2_with (go_at_call 48; refine (good_any _ p _ Q hb.rd).mono ?_; rintro e wz ⟨rfl, rfl⟩; rw [hgb])
        have hbz := hbF.res rF
        have ffr := (Cod.put_fr hbF.rs rF).1
        refine bodyPost_ret (ret_row okT rfl _ _ R rF (by rfl) hbz.rs) rfl ?_
        refine ⟨rF, rfl, ?_, ?_, ?_, hbz.fr⟩
        · rw [HR.out]
          exact ⟨hin.eq, hin.len, Sl.own (own_box (Cod.bxd_blk hbF.rs) hown (by decide) ffr), hin.bd, hin.nm⟩
        · rw [HR.out]
          exact own_box (Cod.bxd_blk hbF.rs) hown (by decide) ffr
        · rw [HR.out]
          exact hbz.rd
      · have hgb' : sn.2 = false := by simpa using hgb
        go_wp2_with (go_at_call 48; refine (good_any _ p _ Q hb.rd).mono ?_; rintro e wz ⟨rfl, rfl⟩; rw [hgb'])
        go_roundg (n - (k + 1))
        case measure => omega
        case rel =>
          exact ⟨k + 1, l', sn, A5, c5, by simp, rfl, by omega, hll, hmn, hb, ho6, by
            rw [HT2.out, show n - k = n - (k + 1) + 1 by omega, rdMany_step _ _ _ _ _ _ EX.out hgb', HL'.out]⟩
    · have hkn : k = n := by omega
      subst hkn
      have i1 : ¬ (k : Int) < (k : Int) := by omega
      rw [Nat.sub_self] at htot
      simp only [rdMany, List.append_nil] at htot
      have HR := Lib.hid (show rdIt s = (⟨nd, a, nm, sb, l⟩, sk) by rw [HI.out, htot])
      have hll : l.length ≤ 1000 := by omega
      clear hl htot
      obtain ⟨rF, hrF⟩ : ∃ rF : ItW, rF = { r0 with A := A, n := l.length, c := c } := ⟨_, rfl⟩
      have hin : ItIn wr rF ⟨nd, a, nm, sb, l⟩ := by
        rw [hrF, R0.out]
        exact ⟨rfl, rfl, Sl.own ho, by simp only; omega, by have := C3.out; simp only; omega⟩
      have hown : (wr).ownsRow w.heap.size 84 34 (.slice rF.A rF.n rF.c) rF.n (codH.row l) := by
        rw [hrF]
        exact ho
      have hbF := hb
      rw [← hrF] at hbF
      have k5 := Cod.bxd_rd hbF.bx
      have hrs2 := okT.stR_box hbF.rs rF
      simp only [Cod.v] at hrs2
      clear hrF hll
      go_wp2_with fail
      have hbz := hbF.res rF
      have ffr := (Cod.put_fr hbF.rs rF).1
      refine bodyPost_ret (ret_row okT rfl _ _ R rF (by rfl) hbz.rs) rfl ?_
      refine ⟨rF, rfl, ?_, ?_, ?_, hbz.fr⟩
      · rw [HR.out]
        exact ⟨hin.eq, hin.len, Sl.own (own_box (Cod.bxd_blk hbF.rs) hown (by decide) ffr), hin.bd, hin.nm⟩
      · rw [HR.out]
        exact own_box (Cod.bxd_blk hbF.rs) hown (by decide) ffr
      · rw [HR.out]
        exact hbz.rd
end Go.Proofs.YtejkfekpgbmdiaaGreat
