/- Contract: differ.maker.edits. (ex_ldS_at ex_bldOe_at, Fr.sameR) Contract: differ.Diff. -/
import Derived.Test.YtefcalkbfaefgaaDifGK
namespace Go.Proofs.Ytefcalkbfaefgaa
open Go.RowKit Go.Sort
set_option linter.unusedVariables false
set_option linter.unusedSimpArgs false

theorem edR_len (xs : List RwP) (r : RwP) : (edR xs r).length ≤ 1 := by
  unfold edR
  split
  · simp
  · split <;> simp
theorem flat_len (xs : List RwP) : ∀ l : List RwP, (l.flatMap (edR xs)).length ≤ l.length
  | [] => by simp
  | r :: l => by
    have := flat_len xs l
    have := edR_len xs r
    simp only [List.flatMap_cons, List.length_append, List.length_cons]
    omega
theorem rightR_heads {r : RwP} (h : rightR r = true) : r.Heads.length ≤ 1000 := by
  unfold rightR rightDr at h
  simp only [Bool.and_eq_true, List.all_cons, List.all_nil] at h
  have := h.1.1.2.1
  unfold rightIt at this
  simp only [Bool.and_eq_true, decide_eq_true_eq] at this
  exact this.1.1.2
def EdA (V : World) (M : Nat) (s : St) (L0 : List Opn) (xs ys : List RwP) (t1 : Nat) (as_ : List RwW) (gk : Nat) (ov iv : Value) (wr : World) : Prop :=
  ∃ k : Nat, iv = .int .i64 (k : Int) ∧ ov = .bool ((ys.take k).all (oneR xs)) ∧ gk = ys.length - k ∧ k ≤ ys.length ∧ MkL V wr M s (L0 ++ (ys.take k).flatMap (edR xs)) ∧ mpT wr t1 = some (tab as_)
def EdB (wO : World) (O : Nat) (r0 : OpW) (hs : List Hd) (gk : Nat) (iv : Value) (wr : World) : Prop :=
  ∃ (j : Nat) (A : Option Addr) (c : Nat) (ls : List St), iv = .int .i64 (j : Int) ∧ gk = hs.length - j ∧ j ≤ hs.length ∧ ls = (hs.take j).map (·.At) ∧ codO.bxd wr O = some { r0 with A := A, n := ls.length, c := c } ∧ OwnC codS wO wr A c ls ∧ Fr noB wO wr
def EdTo (V : World) (M : Nat) (s : St) (L0 : List Opn) (xs ys : List RwP) (e : Ending) (w' : World) : Prop := e = .returned (.bool (ys.all (oneR xs))) ∧ MkL V w' M s (L0 ++ ys.flatMap (edR xs))
theorem take_flat {α β : Type} (f : α → List β) (l : List α) (k : Nat) (h : k < l.length) : (l.take (k + 1)).flatMap f = (l.take k).flatMap f ++ f l[k] := by
  rw [List.take_succ_eq_append_getElem h, List.flatMap_append]
  simp
theorem take_all {α : Type} (f : α → Bool) (l : List α) (k : Nat) (h : k < l.length) : (l.take (k + 1)).all f = ((l.take k).all f && f l[k]) := by
  rw [List.take_succ_eq_append_getElem h, List.all_append]
  simp
set_option maxRecDepth 100000 in
set_option maxHeartbeats 8000000 in
theorem edits_any (V w : World) (M : Nat) (s : St) (hs : 0 ≤ s.T ∧ s.T ≤ 100000000000000) (L0 : List Opn) (h : MkL V w M s L0) (hL0 : L0.length ≤ 20000) (A B : Option Addr) (c d n m : Nat) (as_ bs : List RwW) (xs ys : List RwP) (hn : as_.length = n) (hm : bs.length = m)
    (hSA : Sl V A (codR.row as_)) (hSB : Sl V B (codR.row bs)) (hX : RwsIn V as_ xs) (hY : RwsIn V bs ys) (tX : TreeOk xs) (tY : TreeOk ys) :
    Calls Try.prog 37 #[.pointer (some ⟨M, 0, none⟩), .slice A n c, .slice B m d] w (EdTo V M s L0 xs ys) := by
  subst hn hm
  have hla : as_.length ≤ 5000 := by rw [hX.len]; exact tX.len
  have hlb : bs.length ≤ 5000 := by rw [hY.len]; exact tY.len
  have hYL := Lib.hid hY.len
  have hV := MkS.fr h
  have ndA : (as_.map (·.Node)).Nodup := by rw [hX.nodes]; exact tX.nd
  have HC := Lib.hid (of_any w A c as_.length as_ rfl (hSA.fr0 hV) (by omega) ndA (fun r hr => (hX.wf hr).1))
  clear ndA hV
  go_enter Try.func37, Try.ntmps37
  go_upto_region 3 with (go_at_call 24; refine HC.out.mono ?_; rintro e w1 ⟨t1, rfl, m1, hg1, f1⟩)
  have hM1 := MkL.new h f1
  clear h HC hg1 f1
  go_wp2_with fail
  go_loopg [8, 19] ys.length (fun gk ov iv wr => EdA V M s L0 xs ys t1 as_ gk ov iv wr)
  case atStart => exact ⟨0, rfl, rfl, by omega, by omega, by simpa using hM1, m1⟩
  case round =>
    clear hM1 m1
    obtain ⟨k, rfl, rfl, hgk, hk, hM1, m1⟩ := hrel
    have HGK := Lib.hid hgk
    clear hgk
    obtain ⟨one, hone⟩ : ∃ b, b = (ys.take k).all (oneR xs) := ⟨_, rfl⟩
    rw [← hone]
    have HONE := Lib.hid hone
    clear hone
    by_cases hlt2 : k < ys.length
    · have hlt : k < bs.length := by rw [hYL.out]; exact hlt2
      have i1 : (k : Int) < (bs.length : Int) := by omega
      have i0 : (0 : Int) ≤ (k : Int) := by omega
      have hfV := MkS.fr hM1
      have hSr := hSB.fr0 hfV
      obtain ⟨g, off, rfl, hg⟩ := hSr.adC (by omega)
      have e1 : codR.rd wr g (off + k * 8) = some bs[k] := hSr.rd k hlt
      have hin : RwIn V bs[k] ys[k] := hY.at_ k hlt hlt2
      have hh1 := rightR_heads (tY.ok _ (List.getElem_mem hlt2))
      have hfl := take_flat (edR xs) ys k hlt2
      have hal := take_all (oneR xs) ys k hlt2
      have hbl := flat_len xs (ys.take k)
      rw [List.length_take] at hbl
      generalize bs[k] = r at e1 hin
      generalize ys[k] = y at hin hh1 hfl hal
      have hwf := hin.wn
      -- the other row
      obtain ⟨wv, ho, hlk, hho, hwn, hwl, hwb⟩ : ∃ (wv : RwW) (ho : List Hd), (Go.Proofs.Ytefcalkbfaefgaa.look (tab as_) r.Node).getD (.agg (codR.A zRwW)) = .agg (codR.A wv) ∧ headsR xs y.Node = ho ∧ ho.length = wv.n ∧ Sl V wv.A (codH.row ho) ∧ ho.length ≤ 1000 := by
        rw [look_tab]
        unfold headsR
        rw [hin.node]
        rcases hX.find r.Node with ⟨h1, h2⟩ | ⟨r', x', h1, h2, h3⟩
        · exact ⟨zRwW, [], by rw [h1]; rfl, by rw [h2], rfl, Sl.nil _ _, by simp⟩
        · exact ⟨r', x'.Heads, by rw [h1]; rfl, by rw [h2], h3.len, h3.sl, rightR_heads (tX.ok _ (findR_some h2).1)⟩
      have HFL := Lib.hid hfl
      have HAL := Lib.hid hal
      have HBL := Lib.hid hbl
      have HHO := Lib.hid hho
      have HIN := Lib.hid hin
      clear hfl hal hbl hho hin
      have fa : Fr noB wr (wr.alloc (codR.o r)) := (Fr.refl noB wr).alloc _
      have fb : Fr noB (wr.alloc (codR.o r)) ((wr.alloc (codR.o r)).alloc (codR.o wv)) := (Fr.refl noB _).alloc _
      have n1 := Cod.rd_new' (C := codR) wr r
      have nn1 := (rwAt n1).node
      have mx := mpT_fr0 m1 fa
      have n1b := Cod.rd_fr0 n1 fb
      have n2 := Cod.rd_new' (C := codR) (wr.alloc (codR.o r)) wv
      have hz : (wr.alloc (codR.o r)).heap.size = wr.heap.size + 1 := by simp
      rw [hz] at n2
      have hM2 := MkL.new (MkL.new hM1 fa) fb
      have m2 := mpT_fr0 mx fb
      have fVw : Fr noB V ((wr.alloc (codR.o r)).alloc (codR.o wv)) := (hfV.step0 fa).step0 fb
      clear hz hM1 m1 n1 hSr hfV
      go_upto_region 7 with fail
      generalize (wr.alloc (codR.o r)).alloc (codR.o wv) = W2 at n1b n2 hM2 m2 fVw ⊢
      obtain ⟨N, hN⟩ : ∃ x, x = wr.heap.size := ⟨_, rfl⟩
      rw [← hN] at n1b n2 ⊢
      clear hN fa fb nn1 mx hlk e1
      have HSD := Lib.hid (sameData_any W2 wv r ho y.Heads hwn HIN.out.len (hwl.fr0 fVw) (HIN.out.sl.fr0 fVw) (by omega) (by omega))
      obtain ⟨u1, u2, u3, u4, u5, u6⟩ := rwAt n1b
      obtain ⟨v1, v2, v3, v4, v5, v6⟩ := rwAt n2
      clear u2 u3 u4 v1 v2 v3 v4 n1b n2
      by_cases hsd : sameDt ho y.Heads = true
      · have HE := Lib.hid (show edR xs y = [] by unfold edR; rw [HHO.out, if_pos hsd])
        have HO := Lib.hid (show oneR xs y = true by unfold oneR; rw [HHO.out, hsd]; rfl)
        rw [hsd] at HSD
        clear hsd
        go_wp2_with (go_at_call 30; refine HSD.out.mono ?_; rintro e w3 ⟨rfl, f3⟩)
        go_roundg (ys.length - (k + 1))
        case measure => have := HGK.out; omega
        case rel => exact ⟨k + 1, by simp, by rw [HAL.out, HO.out, Bool.and_true, ← HONE.out], rfl, by omega, by rw [HFL.out, HE.out, List.append_nil]; exact MkL.new hM2 f3, mpT_fr0 m2 f3⟩
      · have hsd' : sameDt ho y.Heads = false := by simpa using hsd
        have HNE := Lib.hid hsd
        rw [hsd'] at HSD
        by_cases hy1 : y.Heads.length = 1
        · obtain ⟨hd, hhd⟩ : ∃ hd, y.Heads = [hd] := by
            match y.Heads, hy1 with
            | [x], _ => exact ⟨x, rfl⟩
          have hrn : r.n = 1 := by rw [← HIN.out.len]; exact hy1
          have HE := Lib.hid (show edR xs y = [edO xs y hd] by unfold edR; rw [HHO.out, if_neg hsd, hhd])
          have HO := Lib.hid (show oneR xs y = true by unfold oneR; rw [hy1]; simp)
          have hsl := HIN.out.sl
          rw [hhd] at hsl
          obtain ⟨gh, oh, hAh, hgh⟩ := (hsl.fr0 fVw).adC (by simp)
          have hrd : codH.rd W2 gh (oh + 0 * 34) = some hd := by
            have h1 := hsl.fr0 fVw
            rw [hAh] at h1
            exact h1.rd 0 (by simp)
          rw [Nat.zero_mul, Nat.add_zero] at hrd
          have hdd : rdI W2 gh (oh + 2) = some hd.Data := by
            have g := getApp hd.Data [.int .i64 hd.At.T, .int .i64 hd.At.R] [] 2 rfl
            rw [List.append_nil] at g
            exact Cod.rdI_part hrd 2 g
          rw [hAh, hrn] at u5
          clear hsd hsd' hy1 hsl hAh hrd hrn
          go_upto_region 10 with (go_at_call 30; refine HSD.out.mono ?_; rintro e w3 ⟨rfl, f3⟩; have u5' := cell_fr0 u5 f3)
          have hk : ∀ w' w'' : World, Fr noB w' w'' → (codS.rd w' N 0 = some r.Node ∧ w'.cell? ⟨N, 7, none⟩ = some (.slice (some ⟨gh, oh, none⟩) 1 r.c) ∧ rdI w' gh (oh + 2) = some hd.Data) → (codS.rd w'' N 0 = some r.Node ∧ w''.cell? ⟨N, 7, none⟩ = some (.slice (some ⟨gh, oh, none⟩) 1 r.c) ∧ rdI w'' gh (oh + 2) = some hd.Data) := fun w' w'' f h => ⟨Cod.rd_fr0 h.1 f, cell_fr0 h.2.1 f, rdI_fr h.2.2 (rdI_lt h.2.2) f (by simp [noB])⟩
          have fd := (Fr.refl noB w3).drew
          refine wp_region_M 9 10 [⟨17179869184, 1024, 0⟩, ⟨34359738368, 17179869184, 1⟩, ⟨68719476736, 1024, 0⟩, ⟨137438953472, 68719476736, 4⟩, ⟨274877906944, 137438953472, 8⟩, ⟨549755813888, 274877906944, 16⟩, ⟨1099511627776, 549755813888, 32⟩, ⟨2199023255552, 1133871366144, 66⟩, ⟨4096, 0, 0⟩, ⟨0, 2199023259648, 511⟩] [(true, 0), (true, 1), (true, 2), (true, 3), (true, 4), (true, 5), (true, 6), (true, 7), (false, 8)] (fun w' => codS.rd w' N 0 = some r.Node ∧ w'.cell? ⟨N, 7, none⟩ = some (.slice (some ⟨gh, oh, none⟩) 1 r.c) ∧ rdI w' gh (oh + 2) = some hd.Data) (by kernel_rfl) rfl (by kernel_rfl) (by kernel_rfl) (by kernel_rfl) (hk _ _ (f3.step0 fd) ⟨u1, u5, hdd⟩) (fun hA hF => ?_)
          iterate 8
            refine wpAnyS_take (v := ?_) hA rfl (fun _ _ _ h => h) (Or.inl ⟨by rfl, ?_⟩) hF (fun hA => ?_)
            rotate_left
            · intro wS hSw; (try dsimp only at hSw); obtain ⟨s1, s2, s3⟩ := hSw; first | (apply Eq.trans; apply ex_ld_id; exact rfl; exact rfl; assumption; with_reducible rfl) | (apply Eq.trans; apply ex_ldS_at; exact rfl; exact rfl; assumption; with_reducible rfl) | (apply Eq.trans; apply ex_bldOe_at; exact rfl; exact rfl; exact rfl; exact rfl; with_reducible rfl) | (go_simp; try with_reducible rfl)
            try simp only [List.getElem_toArray, List.getElem_cons_zero, List.getElem_cons_succ, Act.put, List.setIfInBounds_toArray, List.set_cons_zero, List.set_cons_succ]
          refine wpAnyS_one hA rfl (fun K' hK => ?_)
          refine step_runI rfl _ _ (okO.alOp _ _ rfl _) ?_
          have fz : Fr noB w3.drew (w3.drew.alloc (codO.o zOpW)) := (Fr.refl noB _).alloc _
          replace hF := hk _ _ fz hF
          refine hK.out _ _ hF (fun hA => ?_)
          clear hK K'
          as_aux_lemma =>
          refine wpAnyS_end hA rfl ?_
          simp only [List.drop_succ_cons, List.drop_zero]
          clear hF hk fz
          have v5' := cell_fr0 (cell_fr0 v5 f3) fd
          have hM3 := MkL.new (MkL.new hM2 f3) fd
          have m3 := mpT_fr0 (mpT_fr0 m2 f3) fd
          have fVO := (fVw.step0 f3).step0 fd
          clear hM2 m2 fVw u1 u5 u5' u6 v5 v6 hdd
          generalize w3.drew = wO at hM3 m3 fVO v5' ⊢
          clear f3 fd HSD
          obtain ⟨r0, hr0⟩ : ∃ r0 : OpW, r0 = { zOpW with Kind := 2, Node := r.Node, Data := hd.Data } := ⟨_, rfl⟩
          have fO : Fr noB wO (wO.alloc (codO.o r0)) := (Fr.refl noB _).alloc _
          have bO := Cod.bxd_new (C := codO) wO r0
          have HR0 := Lib.hid hr0
          go_upto_region 11 with fail
          rw [← hr0]
          clear hr0
          have v5 := cell_fr0 v5' fO
          generalize wO.alloc (codO.o r0) = W5 at fO bO v5 ⊢
          obtain ⟨O, hO⟩ : ∃ x, x = wO.heap.size := ⟨_, rfl⟩
          rw [← hO] at bO ⊢
          have HOs := Lib.hid (show wO.heap.size ≤ O by omega)
          clear hO v5'
          have hwl2 := hwl
          obtain ⟨z1, z2, z3, z4, WA, Wn, Wc⟩ := wv
          simp only at hwn hwl2 v5
          have HWN := Lib.hid hwn
          have hWn : Wn ≤ 1000 := by omega
          clear hwl hwn
          go_wp2_with fail
          go_loopg [45] ho.length (fun gk iv wr => EdB wO O r0 ho gk iv wr)
          case atStart => exact ⟨0, none, 0, [], rfl, rfl, by omega, rfl, by
            rw [show ({ r0 with A := none, n := ([] : List St).length, c := 0 } : OpW) = r0 by rw [HR0.out]; rfl]
            exact bO, World.ownsRow_nil _ _ _ _, fO⟩
          case round =>
            clear bO v5 fO
            obtain ⟨j, A6, c6, ls, rfl, rfl, hj, hls, hb6, ho6, f6⟩ := hrel
            have HLS := Lib.hid hls
            have hlj : ls.length = j := by rw [hls]; simp; omega
            have hlsb : ls.length ≤ 1000 := by omega
            clear hls
            have fV6 := fVO.step0 f6
            by_cases hltj : j < ho.length
            · have i3 : (j : Int) < (Wn : Int) := by have := HWN.out; omega
              have i4 : (0 : Int) ≤ (j : Int) := by omega
              have hs6 := hwl2.fr0 fV6
              obtain ⟨g3, off3, rfl, hg3⟩ := hs6.adC (by omega)
              have e3 : codH.rd wr g3 (off3 + j * 34) = some ho[j] := hs6.rd j hltj
              have hnx : (ho.take (j + 1)).map (·.At) = ls ++ [ho[j].At] := by rw [List.take_succ_eq_append_getElem hltj, List.map_append, HLS.out]; rfl
              generalize ho[j] = hh at e3 hnx
              have HNX := Lib.hid hnx
              have fh : Fr noB wr (wr.alloc (codH.o hh)) := (Fr.refl noB wr).alloc _
              have na := (hdAt (Cod.rd_new' (C := codH) wr hh)).At
              have fs : Fr noB (wr.alloc (codH.o hh)) ((wr.alloc (codH.o hh)).alloc (codS.ro [hh.At])) := (Fr.refl noB _).alloc _
              have sl := Cod.sl_new (C := codS) (wr.alloc (codH.o hh)) [hh.At]
              have hz : (wr.alloc (codH.o hh)).heap.size = wr.heap.size + 1 := by simp
              rw [hz] at sl
              have hb6a := Cod.bxd_fr0 hb6 fh
              have k6 := (opAt (Cod.bxd_rd hb6a)).over
              have hb7 := Cod.bxd_fr0 hb6a fs
              have ho7 := own_new0 (own_new0 ho6 fh) fs
              have f7 := (f6.step0 fh).step0 fs
              have hnb := (Cod.bxd_blk hb7).ne_own ho7 (by decide)
              have HNB := Lib.hid hnb
              clear hz hnx hb6 hb6a ho6 fh fs f6 hs6 fV6 hlj hnb
              simp only at k6
              go_wp2_with (at_builtin; refine wpList_appC' etS wO _ rfl _ _ rfl A6 ls.length c6 ls rfl rfl ho7 (some ⟨wr.heap.size + 1, 0, none⟩) 1 1 [hh.At] rfl sl rfl (by simp; omega) f7.size ?_; intro A8 c8 w8 hc8 hmx8 ho8 hg8 hA8; obtain ⟨ls', hls'⟩ : ∃ l : List St, l = ls ++ [hh.At] := ⟨_, rfl⟩; rw [← hls'] at ho8 ⊢; have HLE := Lib.hid hls'; clear hls' hmx8 hc8; have hb8 := Cod.bxd_fr hb7 (Fr.ofGrown (M := fun b => A6.map (·.block) = some b) hg8 (fun g hg => hg)) (fun e => HNB.out O (by rw [ownBlock_sl']; exact e) rfl); have k8 := (opAt (Cod.bxd_rd hb8)).over; have z8 := (Cod.bxd_blk hb8).frozen 40)
              have f8 := Fr.own' f7 ho7 hg8
              have hb9 := Cod.bxd_set hb8 40 (.slice A8 ls'.length c8) _ (seO_Over _ _ _ _)
              have g9 := Cod.set_fr w8 O 40 (.slice A8 ls'.length c8)
              have ho9 := own_box (Cod.bxd_blk hb8) ho8 (by decide) g9
              go_roundg (ho.length - (j + 1))
              case measure => omega
              case rel => exact ⟨j + 1, A8, c8, ls', by simp, rfl, by omega, by rw [HLE.out, HNX.out], hb9, ho9, f8.step1 g9 HOs.out⟩
            · have hjn : j = ho.length := by omega
              have i3 : ¬ (j : Int) < (Wn : Int) := by have := HWN.out; omega
              have hls : ls = ho.map (·.At) := by rw [HLS.out, List.take_of_length_le (by omega)]
              have q6 := Cod.bxd_rd hb6
              have hM6 := MkL.new hM3 f6
              have m6 := mpT_fr0 m3 f6
              have HOV := Lib.hid (show OpV V wr { r0 with A := A6, n := ls.length, c := c6 } (edO xs y hd) from ⟨⟨by
                unfold edO opOf
                rw [HR0.out, HHO.out, ← hls]
                simp only [HIN.out.node, zOpW], by unfold edO; simp only; rw [HHO.out, ← hls], by
                unfold edO; simp only; rw [HHO.out, ← hls]
                exact Sl.own ho6, by unfold edO; simp only; rw [HHO.out, ← hls]; omega, by rw [HR0.out]; simp [zOpW]⟩, by
                unfold edO; simp only; rw [HHO.out, ← hls]
                exact own_base ho6 fVO.size⟩)
              have HBL2 := Lib.hid (show (L0 ++ (ys.take k).flatMap (edR xs)).length ≤ 100000000 by
                have := HBL.out
                rw [List.length_append]
                omega)
              clear hls hlj hM3 m3 ho6
              generalize ({ r0 with A := A6, n := ls.length, c := c6 } : OpW) = rF at q6 hb6 HOV
              go_wp2_with (go_at_call 53; refine (put_l V _ M s _ hM6 hs HBL2.out rF (edO xs y hd) HOV.out).mono ?_; rintro e w9 ⟨rfl, hM9, f9⟩)
              go_roundg (ys.length - (k + 1))
              case measure => have := HGK.out; omega
              case rel => exact ⟨k + 1, by simp, by rw [HAL.out, HO.out, Bool.and_true, ← HONE.out], rfl, by omega, by rw [HFL.out, HE.out, ← List.append_assoc]; exact hM9, mpT_mk f9 m6⟩
        · have HE := Lib.hid (show edR xs y = [] by
            unfold edR
            rw [HHO.out, if_neg hsd]
            match y.Heads, hy1 with
            | [], _ => rfl
            | [x], h => exact absurd rfl h
            | x :: z :: l, _ => rfl)
          have HO := Lib.hid (show oneR xs y = false by unfold oneR; rw [HHO.out, hsd']; simp [hy1])
          have hrn : ¬ (r.n : Int) = 1 := by have := HIN.out.len; omega
          have hrn2 : r.n ≤ 1000 := by have := HIN.out.len; omega
          clear hsd hsd'
          go_wp2_with (go_at_call 30; refine HSD.out.mono ?_; rintro e w3 ⟨rfl, f3⟩; have u5' := cell_fr0 u5 f3)
          go_roundg (ys.length - (k + 1))
          case measure => have := HGK.out; omega
          case rel => exact ⟨k + 1, by simp, by rw [HAL.out, HO.out, Bool.and_false], rfl, by omega, by rw [HFL.out, HE.out, List.append_nil]; exact MkL.new hM2 f3, mpT_fr0 m2 f3⟩
    · have hkn : k = ys.length := by omega
      subst hkn
      have i1 : ¬ (ys.length : Int) < (bs.length : Int) := by have := hYL.out; omega
      rw [List.take_length] at hM1
      have hone := HONE.out
      rw [List.take_length] at hone
      have HO := Lib.hid hone
      clear hone
      go_wp2_with fail
      go_ret
      exact ⟨by rw [HO.out]; rfl, hM1⟩
end Go.Proofs.Ytefcalkbfaefgaa
namespace Go.Proofs.Ytefcalkbfaefgaa
open Go.RowKit Go.Sort
set_option linter.unusedVariables false
set_option linter.unusedSimpArgs false

theorem ntree_yes (w : World) (A : Option Addr) (c n : Nat) (rs : List RwW) (xs : List RwP) (hn : rs.length = n) (hs : Sl w A (codR.row rs)) (hb : rs.length ≤ 140737488355328) (h : RwsIn w rs xs) (hbd : ∀ x ∈ xs, x.Heads.length ≤ 2932031007402) (ht : TreeOk xs) :
    Calls Try.prog 34 #[.slice A n c] w (Gives w (.bool true)) := (ntree_any w A c n rs xs hn hs hb h hbd).mono fun e w' ⟨b, h1, h2, h3⟩ => ⟨by rw [h1, h3.2 ht], h2⟩
theorem ntree_no (w : World) (A : Option Addr) (c n : Nat) (rs : List RwW) (xs : List RwP) (hn : rs.length = n) (hs : Sl w A (codR.row rs)) (hb : rs.length ≤ 140737488355328) (h : RwsIn w rs xs) (hbd : ∀ x ∈ xs, x.Heads.length ≤ 2932031007402) (ht : ¬ TreeOk xs) :
    Calls Try.prog 34 #[.slice A n c] w (Gives w (.bool false)) := (ntree_any w A c n rs xs hn hs hb h hbd).mono fun e w' ⟨b, h1, h2, h3⟩ => ⟨by
      rw [h1]
      cases b with
      | false => rfl
      | true => exact absurd (h3.1 rfl) ht, h2⟩
def DfTo (w : World) (xs ys : List RwP) (s : St) (e : Ending) (w' : World) : Prop :=
  ∃ (E : Int) (A : Option Addr) (c : Nat) (rs : List OpW) (os : List Opn), e = .returned (.tuple #[.slice A os.length c, .int .i64 E]) ∧ rs.length = os.length ∧ Sl w' A (codO.row rs) ∧ OpsIn w' rs os ∧ os.length ≤ 100000 ∧ Fr noB w w' ∧ DiffTo xs ys s E os
theorem DfTo.no {w w' : World} {xs ys : List RwP} {s : St} {E : Int} (hE : E ≠ 0) (f : Fr noB w w') (h : TreeOk xs → TreeOk ys → rightS s = true → (∀ l : List RwP, l.Perm (ys.filter (movedR xs)) → (∀ o ∈ allO xs ys s l, goodOp o = true) ∧ (allO xs ys s l).length ≤ 64) → (∀ r ∈ ys, oneR xs r = true) → False) : DfTo w xs ys s (.returned (.tuple #[.slice none 0 0, .int .i64 E])) w' :=
  ⟨E, none, 0, [], [], rfl, rfl, Sl.nil _ _, ⟨rfl, fun i h => absurd h (by simp)⟩, by simp, f, fun _ => rfl, fun h0 => absurd h0 hE, fun a b c d e => absurd (h a b c d e) id⟩
set_option maxRecDepth 100000 in
set_option maxHeartbeats 4000000 in
theorem diff_any (w : World) (A B : Option Addr) (c d n m : Nat) (as_ bs : List RwW) (xs ys : List RwP) (hn : as_.length = n) (hm : bs.length = m)
    (hSA : Sl w A (codR.row as_)) (hSB : Sl w B (codR.row bs)) (hX : RwsIn w as_ xs) (hY : RwsIn w bs ys) (hb1 : as_.length ≤ 140737488355328) (hb2 : bs.length ≤ 140737488355328) (hbx : ∀ x ∈ xs, x.Heads.length ≤ 2932031007402) (hby : ∀ x ∈ ys, x.Heads.length ≤ 2932031007402) (s : St) :
    Calls Try.prog 14 #[.slice A n c, .slice B m d, .agg (codS.A s)] w (DfTo w xs ys s) := by
  subst hn hm
  have f0 : Fr noB w (w.alloc (.cells (codS.A s) 24)) := (Fr.refl noB w).alloc _
  have q0 := Cod.rd_new (C := codS) w 24 s
  have tok : True := trivial
  by_cases tX : TreeOk xs
  · have CA := Lib.hid (fun w' (f : Fr noB w w') => ntree_yes w' A c as_.length as_ xs rfl (hSA.fr0 f) hb1 (hX.fr f) hbx tX)
    by_cases tY : TreeOk ys
    · have CB := Lib.hid (fun w' (f : Fr noB w w') => ntree_yes w' B d bs.length bs ys rfl (hSB.fr0 f) hb2 (hY.fr f) hby tY)
      by_cases hr : rightS s = true
      · have HR := Lib.hid hr
        have hsT : 1 ≤ s.T ∧ s.T ≤ 1099511627776 := by
          unfold rightS at hr
          simp only [Bool.and_eq_true, decide_eq_true_eq] at hr
          omega
        have CR : ∀ wS : World, Calls Try.prog 35 #[.agg (codS.A s)] wS (Gives wS (.bool true)) := fun wS => by have := right_v wS s; rwa [hr] at this
        have HCR := Lib.hid CR
        have HST := Lib.hid hsT
        clear hr CR hsT
        go_enter Try.func14, Try.ntmps14
        go_upto_region 5 with (first
          | (go_at_call 34; have _t := tok; refine (CA.out _ f0).mono ?_; rintro e w1 ⟨rfl, f1⟩; clear tok _t)
          | (go_at_call 34; refine (CB.out w1 (f0.step0 f1)).mono ?_; rintro e w2 ⟨rfl, f2⟩; have q2 := Cod.rd_fr0 (Cod.rd_fr0 q0 f1) f2)
          | (go_at_call 35; refine (HCR.out _).mono ?_; rintro e w3 ⟨rfl, f3⟩; have q3 := Cod.rd_fr0 q2 f3))
        have g3 := ((f0.step0 f1).step0 f2).step0 f3
        clear CA CB HCR q0 q2 f0 f1 f2 f3
        have bM : codM.bxd (w3.alloc (.cells (codM.A ⟨s, none, 0, 0, false⟩) 71)) w3.heap.size = some ⟨s, none, 0, 0, false⟩ := Cod.bxd_box (C := codM) w3 ⟨s, none, 0, 0, false⟩
        have fM : Fr noB w3 (w3.alloc (.cells (codM.A ⟨s, none, 0, 0, false⟩) 71)) := (Fr.refl noB w3).alloc _
        have hML : MkL w3 (w3.alloc (.cells (codM.A ⟨s, none, 0, 0, false⟩) 71)) w3.heap.size s [] := by
          refine ⟨none, 0, [], ?_, ⟨World.ownsRow_nil _ _ _ _, World.ownsRow_nil _ _ _ _, ⟨rfl, fun i h => absurd h (by simp)⟩⟩, fM, Nat.le_refl _⟩
          have : (⟨s.T + (([] : List Opn).length : Nat), s.R⟩ : St) = s := by simp
          rw [this]
          exact bM
        have HML := Lib.hid hML
        clear hML bM
        have HMV := Lib.hid (fun w' (h : MkL w3 w' w3.heap.size s []) => moves_any w3 w' w3.heap.size s (by have := HST.out; omega) h A B c d as_.length bs.length as_ bs xs ys rfl rfl (hSA.fr0 g3) (hSB.fr0 g3) (hX.fr g3) (hY.fr g3) tX tY)
        have HED := Lib.hid (fun w' L0 (h : MkL w3 w' w3.heap.size s L0) (hl : L0.length ≤ 20000) => edits_any w3 w' w3.heap.size s (by have := HST.out; omega) L0 h hl A B c d as_.length bs.length as_ bs xs ys rfl rfl (hSA.fr0 g3) (hSB.fr0 g3) (hX.fr g3) (hY.fr g3) tX tY)
        go_upto_region 6 with fail
        obtain ⟨M, hM⟩ : ∃ M, M = w3.heap.size := ⟨_, rfl⟩
        rw [← hM] at HML HMV HED ⊢
        clear hM fM q3
        generalize w3.alloc (.cells (codM.A ⟨s, none, 0, 0, false⟩) 71) = W4 at HML ⊢
        go_upto_region 7 with (go_at_call 36; refine (HMV.out W4 HML.out).mono ?_; rintro e w5 ⟨rfl, l, hperm, hpw, hM5⟩)
        obtain ⟨L0, hL0⟩ : ∃ L0, L0 = l.map mvO ++ (xs.filter (goneR ys)).map trO := ⟨_, rfl⟩
        rw [← hL0] at hM5
        have hll : L0.length ≤ 10000 := by
          rw [hL0]
          have h1 := hperm.length_eq
          have h2 := List.length_filter_le (movedR xs) ys
          have h3 := List.length_filter_le (goneR ys) xs
          have h4 := tX.len
          have h5 := tY.len
          rw [List.length_append, List.length_map, List.length_map]
          omega
        have HL0 := Lib.hid hL0
        clear hL0
        go_upto_region 8 with (go_at_call 37; refine (HED.out w5 L0 hM5 (by omega)).mono ?_; rintro e w6 ⟨rfl, hM6⟩)
        have hos : numS s (L0 ++ ys.flatMap (edR xs)) = allO xs ys s l := by rw [HL0.out]; rfl
        have hlen : (numS s (L0 ++ ys.flatMap (edR xs))).length ≤ 15000 := by
          rw [numS_len, List.length_append]
          have := flat_len xs ys
          have := tY.len
          omega
        obtain ⟨D6, c6, rs6, hb6, hR6, hf6, _⟩ := hM6
        have hops := hR6.hos.ops
        have hsl6 := Sl.own hR6.hrs
        have hrl := hR6.hos.len
        have fz := g3.step0 hf6
        have a3 := (mkAt (Cod.bxd_rd hb6)).bad
        have a2 := (mkAt (Cod.bxd_rd hb6)).ops
        simp only at a2 a3
        generalize hosE : numS s (L0 ++ ys.flatMap (edR xs)) = os at hos hlen hops hrl a3 hsl6
        have HOS := Lib.hid hos
        have HRL := Lib.hid hrl
        have hrb : rs6.length ≤ 15000 := by omega
        have HOPS := Lib.hid hops
        have HPERM := Lib.hid hperm
        clear hR6 hb6 hf6 HML HMV HED hM5 hos hosE hops hrl hpw hperm hll
        by_cases hgood : os.all goodOp = true
        · rw [hgood] at a3
          have HGD := Lib.hid hgood
          clear hgood
          by_cases hone : ys.all (oneR xs) = true
          · rw [hone]
            have HON := Lib.hid hone
            clear hone
            by_cases h64 : rs6.length ≤ 64
            · have n1 : ¬ (64 : Int) < (rs6.length : Int) := by omega
              go_wp2_with fail
              refine bodyPost_ret (results_tmp2 rfl _ _ _) rfl ?_
              have hrl := HRL.out
              refine ⟨0, D6, c6, rs6, os, ?_, hrl, hsl6, HOPS.out, by omega, fz, fun h => absurd rfl h, fun _ => ⟨tX, tY, HR.out, ⟨l, HPERM.out, HOS.out⟩, fun o ho => List.all_eq_true.1 HGD.out o ho, fun r hr => List.all_eq_true.1 HON.out r hr, by omega⟩, fun _ _ _ _ _ => rfl⟩
              rw [← hrl]; rfl
            · have n1 : (64 : Int) < (rs6.length : Int) := by omega
              go_wp2_with fail
              refine bodyPost_ret (results_tmp2 rfl _ _ _) rfl ?_
              exact DfTo.no (by decide) fz (fun _ _ _ h _ => by
                have h1 := (h l HPERM.out).2
                rw [← HOS.out, ← HRL.out] at h1
                exact h64 h1)
          · have hone' : ys.all (oneR xs) = false := by simpa using hone
            rw [hone']
            go_wp2_with fail
            refine bodyPost_ret (results_tmp2 rfl _ _ _) rfl ?_
            exact DfTo.no (by decide) fz (fun _ _ _ _ h => hone (List.all_eq_true.2 h))
        · have hgood' : os.all goodOp = false := by simpa using hgood
          rw [hgood'] at a3
          go_wp2_with fail
          refine bodyPost_ret (results_tmp2 rfl _ _ _) rfl ?_
          exact DfTo.no (by decide) fz (fun _ _ _ h _ => hgood (List.all_eq_true.2 (by rw [HOS.out]; exact (h l HPERM.out).1)))
      · have hr' : rightS s = false := by simpa using hr
        have CR : ∀ wS : World, Calls Try.prog 35 #[.agg (codS.A s)] wS (Gives wS (.bool false)) := fun wS => by have := right_v wS s; rwa [hr'] at this
        have HCR := Lib.hid CR
        have HNR := Lib.hid hr
        clear hr CR hr'
        go_enter Try.func14, Try.ntmps14
        go_wp2_with (first
          | (go_at_call 34; have _t := tok; refine (CA.out _ f0).mono ?_; rintro e w1 ⟨rfl, f1⟩; clear tok _t)
          | (go_at_call 34; refine (CB.out w1 (f0.step0 f1)).mono ?_; rintro e w2 ⟨rfl, f2⟩; have q2 := Cod.rd_fr0 (Cod.rd_fr0 q0 f1) f2)
          | (go_at_call 35; refine (HCR.out _).mono ?_; rintro e w3 ⟨rfl, f3⟩))
        refine bodyPost_ret (results_tmp2 rfl _ _ _) rfl ?_
        exact DfTo.no (by decide) (((f0.step0 f1).step0 f2).step0 f3) (fun _ _ h _ _ => HNR.out h)
    · have CB := Lib.hid (fun w' (f : Fr noB w w') => ntree_no w' B d bs.length bs ys rfl (hSB.fr0 f) hb2 (hY.fr f) hby tY)
      go_enter Try.func14, Try.ntmps14
      go_wp2_with (first
        | (go_at_call 34; have _t := tok; refine (CA.out _ f0).mono ?_; rintro e w1 ⟨rfl, f1⟩; clear tok _t)
        | (go_at_call 34; refine (CB.out w1 (f0.step0 f1)).mono ?_; rintro e w2 ⟨rfl, f2⟩))
      refine bodyPost_ret (results_tmp2 rfl _ _ _) rfl ?_
      exact DfTo.no (by decide) ((f0.step0 f1).step0 f2) (fun _ h _ _ _ => tY h)
  · have CA := Lib.hid (fun w' (f : Fr noB w w') => ntree_no w' A c as_.length as_ xs rfl (hSA.fr0 f) hb1 (hX.fr f) hbx tX)
    go_enter Try.func14, Try.ntmps14
    go_wp2_with (go_at_call 34; refine (CA.out _ f0).mono ?_; rintro e w1 ⟨rfl, f1⟩)
    refine bodyPost_ret (results_tmp2 rfl _ _ _) rfl ?_
    exact DfTo.no (by decide) (f0.step0 f1) (fun h _ _ _ _ => tX h)
end Go.Proofs.Ytefcalkbfaefgaa
