/- The walk of DifferTurns. (ex_ldS_at, ex_ldR_at, ex_ldO_at, rdI) -/
import Derived.Test.YtefcalkbfaefgaaGreatLawDtK
import Derived.Test.YtefcalkbfaefgaaGreatSmDK
import Derived.Test.YtefcalkbfaefgaaGreatGvLuK
namespace Go.Proofs.YtefcalkbfaefgaaGreat
open Go.RowKit Go.Sort
set_option linter.unusedVariables false
set_option linter.unusedSimpArgs false
attribute [local go_sem] Oper.semAt_some

theorem GvS.nohsX {base : Nat} {w : World} {b : Nat} {t : TrW} {L : List Opn} (h : GvS base w b t L) : NoHS (trM b t) w := fun g hg cs z => ⟨fun e => h.offC e (by decide) (by decide) hg, fun e => h.offC e (by decide) (by decide) hg⟩
/-- what stays while the tree is turned: the rows that are wanted, the operations, the stamp -/
structure TuK (V5 V6 w : World) (A5 : Option Addr) (c5 : Nat) (rs5 : List RwW) (ys : List RwP) (Ao : Option Addr) (co : Nat) (ro : List OpW) (os : List Opn) (P : Nat) (s : St) : Prop where
  a : OwnC codR V5 w A5 c5 rs5
  b : AllO (RwN V5.heap.size) w rs5 ys
  c : OwnC codO V6 w Ao co ro
  d : OpsOwn V6 w ro os
  e : codS.bxd w P = some s
section
variable {V5 V6 w w' : World} {A5 : Option Addr} {c5 : Nat} {rs5 : List RwW} {ys : List RwP} {Ao : Option Addr} {co : Nat} {ro : List OpW} {os : List Opn} {P : Nat} {s : St}
theorem TuK.fr0 (h : TuK V5 V6 w A5 c5 rs5 ys Ao co ro os P s) (f : Fr noB w w') : TuK V5 V6 w' A5 c5 rs5 ys Ao co ro os P s :=
  ⟨own_new0 h.a f, h.b.map fun r x k => k.fr f (NoHS.nob _), own_new0 h.c f, h.d.map fun v n l k => own_new0 k f, Cod.bxd_fr0 h.e f⟩
theorem TuK.frT (h : TuK V5 V6 w A5 c5 rs5 ys Ao co ro os P s) {base b : Nat} {t : TrW} {L : List Opn} (hG : GvS base w b t L) (f : Fr (trM b t) w w') : TuK V5 V6 w' A5 c5 rs5 ys Ao co ro os P s :=
  ⟨hG.own f h.a (by decide) (by decide), h.b.map fun r x k => k.fr f hG.nohsX, hG.own f h.c (by decide) (by decide), ⟨h.d.len, fun i h1 h2 => by
    obtain ⟨k1, k2⟩ := h.d.at_ i h1 h2
    have k3 := hG.own f k2 (by decide) (by decide)
    exact ⟨k1.of k3, k3⟩⟩, Cod.bxd_fr h.e f (hG.offC (Cod.bxd_blk h.e) (by decide) (by decide))⟩
end
theorem doesAll_get : ∀ {os : List Opn} {X : List RwP}, doesAll X os → ∀ k (h : k < os.length), ∃ r, newR (runX X (os.take k)) os[k] = some r
  | [], X, _, k, h => absurd h (by simp)
  | o :: os, X, hd, 0, h => hd.1
  | o :: os, X, hd, k + 1, h => by
    have := doesAll_get hd.2 k (by simpa using h)
    simpa [runX] using this
theorem EdX.perm {xs ys X zs D : List RwP} (h : EdX xs ys X D) (hz : ∀ s, findR zs s = findR X s) : EdX xs ys zs D :=
  ⟨fun r hr => by obtain ⟨q, h1, h2⟩ := h.yy r hr; exact ⟨q, by rw [hz]; exact h1, h2⟩, fun s hs q hq => h.no s hs q (by rw [← hz]; exact hq)⟩
def TuLoop (W V5 V6 : World) (base b : Nat) (L : List Opn) (A5 : Option Addr) (c5 : Nat) (rs5 : List RwW) (ys : List RwP) (Ao : Option Addr) (co : Nat) (ro : List OpW) (os : List Opn) (P : Nat) (s : St) (gk : Nat) (iv : Value) (wr : World) : Prop :=
  ∃ (k : Nat) (t : TrW), iv = .int .i64 (k : Int) ∧ gk = os.length - k ∧ k ≤ os.length ∧ GvS base wr b t (L ++ os.take k) ∧ TuK V5 V6 wr A5 c5 rs5 ys Ao co ro os P s ∧ Fr noB W wr
theorem allO_at {a b l : List RwP} {s : St} (i : Nat) (h : i < (allO a b s l).length) : (allO a b s l)[i].At = ⟨s.T + i, s.R⟩ := by
  unfold allO at h ⊢
  have h' := h
  rw [numS_len] at h'
  rw [numS_get _ _ i h']
/-- the operations of the tree and those that are told so far rise -/
theorem srt_told {L os : List Opn} {m : Int} {s : St} (hL : SrtL L) (hT : ∀ o ∈ L, o.At.T ≤ m) (hm : m < s.T) (ho : ∀ i (h : i < os.length), os[i].At = ⟨s.T + i, s.R⟩) (k : Nat) : SrtL (L ++ os.take k) ∧ (∀ (h : k < os.length), ∀ p ∈ L ++ os.take k, cmpS p.At os[k].At < 0) ∧ ∀ p ∈ L ++ os.take k, p.At.T < s.T + k := by
  have key : ∀ p ∈ os.take k, ∃ i, ∃ (h : i < os.length), i < k ∧ p = os[i] := fun p hp => by
    obtain ⟨i, hi, rfl⟩ := List.getElem_of_mem hp
    rw [List.length_take] at hi
    exact ⟨i, by omega, by omega, by rw [List.getElem_take]⟩
  refine ⟨?_, fun h p hp => ?_, fun p hp => ?_⟩
  · refine List.pairwise_append.2 ⟨hL, ?_, fun p hp q hq => ?_⟩
    · rw [List.pairwise_iff_getElem]
      intro i j hi hj hij
      rw [List.length_take] at hi hj
      rw [List.getElem_take, List.getElem_take, ho i (by omega), ho j (by omega)]
      exact cmpS_lt (by show s.T + (i : Int) < s.T + (j : Int); omega)
    · obtain ⟨i, hi, _, rfl⟩ := key q hq
      rw [ho i hi]
      exact cmpS_lt (by have := hT p hp; show p.At.T < s.T + (i : Int); omega)
  · rw [ho k h]
    rcases List.mem_append.1 hp with hp | hp
    · exact cmpS_lt (by have := hT p hp; show p.At.T < s.T + (k : Int); omega)
    · obtain ⟨i, hi, hik, rfl⟩ := key p hp
      rw [ho i hi]
      exact cmpS_lt (by show s.T + (i : Int) < s.T + (k : Int); omega)
  · rcases List.mem_append.1 hp with hp | hp
    · have := hT p hp; omega
    · obtain ⟨i, hi, hik, rfl⟩ := key p hp
      rw [ho i hi]
      show s.T + (i : Int) < s.T + (k : Int)
      omega
set_option maxRecDepth 100000 in
set_option maxHeartbeats 16000000 in
theorem lawTurns_any (W : World) (A : Option Addr) (c : Nat) (rs : List OpW) (xs : List Opn) (hs : Sl W A (codO.row rs)) (hb : rs.length ≤ 140737488355328) (hX : OpsIn W rs xs)
    (B : Option Addr) (d : Nat) (ss : List OpW) (zs : List Opn) (hs2 : Sl W B (codO.row ss)) (hb2 : ss.length ≤ 140737488355328) (hX2 : OpsIn W ss zs) :
    Calls Tryz.prog 4 #[.slice A rs.length c, .slice B ss.length d] W (Gives W (.bool true)) := by
  have CT := Lib.hid (fun w' (f : Fr noB W w') => tree14_any w' A c rs xs _ rfl (hs.fr0 f) hb (hX.fr f))
  have CT2 := Lib.hid (fun w' (f : Fr noB W w') => tree14_any w' B d ss zs _ rfl (hs2.fr0 f) hb2 (hX2.fr f))
  clear hs hb hX hs2 hb2 hX2
  have tok : True := trivial
  go_enter Tryz.func4, Tryz.ntmps4
  go_upto_region 5 with (first
    | (go_at_call 6; refine (alive14_any _).mono ?_; rintro e w1 ⟨rfl, f1⟩)
    | (go_at_call 7; have _t := tok; refine (CT.out w1 f1).mono ?_; rintro e w2 ⟨b, t, L, m, rfl, T2⟩; clear tok _t)
    | (go_at_call 7; refine (CT2.out w2 (f1.step0 T2.fr)).mono ?_; rintro e w3 ⟨b', t', L', m', rfl, T3⟩))
  have HG := Lib.hid (T2.gv.fr0 T3.fr)
  have HT := Lib.hid T2
  have HT' := Lib.hid T3
  have F3 := Lib.hid ((f1.step0 T2.fr).step0 T3.fr)
  have F1 := Lib.hid f1.size
  clear f1 T2 T3 CT CT2
  obtain ⟨M, hM⟩ : ∃ M, M = max m m' := ⟨_, rfl⟩
  have HM := Lib.hid (show m ≤ M ∧ m' ≤ M ∧ 0 ≤ M ∧ M ≤ 1099511627776 by have := HT.out.m0; have := HT.out.m1; have := HT'.out.m1; omega)
  have wm : IntKind.i64.wrap (max m m' + 1) = M + 1 := by rw [IntKind.wrap_i64, ← hM]; have := HM.out; omega
  clear hM
  go_upto_region 6 with fail
  clear wm
  have fS : Fr noB w3 (w3.alloc (codS.o ⟨M + 1, 2⟩)) := (Fr.refl noB w3).alloc _
  have bS := Cod.bxd_new (C := codS) w3 (⟨M + 1, 2⟩ : St)
  have HG4 := Lib.hid (HG.out.fr0 fS)
  have HGY := Lib.hid (HT'.out.gv.fr0 fS)
  have F4 := Lib.hid (F3.out.step0 fS)
  clear fS
  generalize w3.alloc (codS.o ⟨M + 1, 2⟩) = W4 at bS HG4 HGY F4 ⊢
  generalize w3.heap.size = P at bS ⊢
  have qS := Cod.bxd_rd bS
  obtain ⟨q3, q4⟩ := stCell qS
  by_cases hm : 549755813888 < M + 1
  · go_wp2_with fail
    go_ret
    exact ⟨rfl, F4.out⟩
  · have HMM := Lib.hid (show M + 1 ≤ 549755813888 by omega)
    have CRY := Lib.hid (gvRows_any HGY.out (by have := HT'.out.len; omega))
    go_upto_region 9 with (go_at_call 8; refine CRY.out.mono ?_; rintro e w5 ⟨A5, c5, rs5, ys, rfl, o5, x5, ap5, p5, r5, f5⟩)
    have bS5 := Cod.bxd_fr0 bS f5
    have qS5 := Cod.bxd_rd bS5
    have HG5 := Lib.hid (HG4.out.fr0 f5)
    have F5 := Lib.hid (F4.out.step0 f5)
    have HY := Lib.hid (rows_g HT'.out.gv.ok HT'.out.srt (by have := HT'.out.len; omega) (fun o ho => Int.le_trans (HT'.out.T o ho) HM.out.2.1) HT'.out.gv.gvt p5 r5)
    have HO5 := Lib.hid o5
    have HX5 := Lib.hid x5
    have HLY := Lib.hid (show rs5.length = ys.length from x5.1)
    clear CRY p5 r5 ap5 f5 qS q3 q4 hm bS x5 o5
    -- Diff
    have hk : ∀ w' w'' : World, Fr noB w' w'' → (codS.rd w' P 0 = some ⟨M + 1, 2⟩) → (codS.rd w'' P 0 = some (⟨M + 1, 2⟩ : St)) := fun w' w'' f h => Cod.rd_fr0 h f
    have fd : Fr noB w5 w5.drew := (Fr.refl noB w5).drew
    have hF0 := hk _ _ fd qS5
    have CRX := Lib.hid (gvRows_any (HG5.out.fr0 fd) (by have := HT.out.len; omega))
    refine wp_region_M 9 10 [⟨2199023255552, 32, 0⟩, ⟨4398046511104, 2199023255552, 1⟩, ⟨8796093022208, 1024, 0⟩, ⟨17592186044416, 512, 0⟩, ⟨35184372088832, 30786325577728, 14⟩, ⟨1099511627776, 35184372088832, 16⟩, ⟨70368744177664, 1099511627776, 32⟩, ⟨140737488355328, 1099511627776, 32⟩, ⟨2048, 70368744177664, 127⟩, ⟨4096, 140737488355328, 511⟩] [(true, 0), (true, 2), (true, 3), (false, 1), (false, 4), (true, 5), (true, 6), (true, 7), (true, 8)] (fun w' => codS.rd w' P 0 = some (⟨M + 1, 2⟩ : St)) (by kernel_rfl) rfl (by kernel_rfl) (by kernel_rfl) (by kernel_rfl) hF0 (fun hA hF => ?_)
    iterate 3
      refine wpAnyS_take (v := ?_) hA rfl (fun _ _ _ h => h) (Or.inl ⟨by rfl, ?_⟩) hF (fun hA => ?_)
      rotate_left
      · intro wS hSw; (try dsimp only at hSw); obtain s1 := hSw; first | (apply Eq.trans; apply ex_ld_id; exact rfl; exact rfl; assumption; with_reducible rfl) | (apply Eq.trans; apply ex_ldR_at; exact rfl; exact rfl; assumption; with_reducible rfl) | (apply Eq.trans; apply ex_ldO_at; exact rfl; exact rfl; assumption; with_reducible rfl) | (apply Eq.trans; apply ex_ldS_at; exact rfl; exact rfl; assumption; with_reducible rfl) | (go_simp; try with_reducible rfl)
      try simp only [List.getElem_toArray, List.getElem_cons_zero, List.getElem_cons_succ, Act.put, List.setIfInBounds_toArray, List.set_cons_zero, List.set_cons_succ]
    refine wpAnyS_one hA rfl (fun K' hK => ?_)
    go_simp
    go_at_call 8
    refine CRX.out.mono ?_
    rintro e w6 ⟨A6, c6, rs6, xs6, rfl, o6, x6, ap6, p6, r6, f6⟩
    replace hF := hk _ _ f6 hF
    refine hK.out _ _ hF (fun hA => ?_)
    clear hK K'
    as_aux_lemma =>
    have HXG := Lib.hid (rows_g HG.out.ok HT.out.srt (by have := HT.out.len; omega) (fun o ho => Int.le_trans (HT.out.T o ho) HM.out.1) HG.out.gvt p6 r6)
    have g6 := fd.step0 f6
    have CD := Lib.hid (diff_any w6 A6 A5 c6 c5 _ _ rs6 rs5 xs6 ys rfl rfl (Sl.own o6) ((Sl.own HO5.out).fr0 g6) ⟨x6.1, fun i h h' => (x6.2 i h h').row.inn⟩ ⟨HX5.out.1, fun i h h' => ((HX5.out.2 i h h').row.inn).fr g6⟩ (by rw [x6.1]; have := HXG.out.len; omega) (by rw [HX5.out.1]; have := HY.out.len; omega) (fun y hy => by have := HXG.out.few y hy; omega) (fun y hy => by have := HY.out.few y hy; omega) ⟨M + 1, 2⟩)
    refine wpAnyS_one hA rfl (fun K' hK => ?_)
    go_simp
    go_at_call 9
    refine CD.out.mono ?_
    rintro e w7 ⟨E, A7, c7, ro, os, rfl, hl7, s7, i7, b7, f7, hd7, oo7, ow7, hpw7⟩
    replace hF := hk _ _ f7 hF
    refine hK.out _ _ hF (fun hA => ?_)
    clear hK K'
    as_aux_lemma =>
    iterate 4
      refine wpAnyS_take (v := ?_) hA rfl (fun _ _ _ h => h) (Or.inl ⟨by rfl, ?_⟩) hF (fun hA => ?_)
      rotate_left
      · intro wS hSw; (try dsimp only at hSw); obtain s1 := hSw; first | (apply Eq.trans; apply ex_ld_id; exact rfl; exact rfl; assumption; with_reducible rfl) | (apply Eq.trans; apply ex_ldR_at; exact rfl; exact rfl; assumption; with_reducible rfl) | (apply Eq.trans; apply ex_ldO_at; exact rfl; exact rfl; assumption; with_reducible rfl) | (apply Eq.trans; apply ex_ldS_at; exact rfl; exact rfl; assumption; with_reducible rfl) | (go_simp; try with_reducible rfl)
      try simp only [List.getElem_toArray, List.getElem_cons_zero, List.getElem_cons_succ, Act.put, List.setIfInBounds_toArray, List.set_cons_zero, List.set_cons_succ]
    refine wpAnyS_end hA rfl ?_
    simp only [List.drop_succ_cons, List.drop_zero]
    clear hF hk hF0 CRX CD
    have g7 := g6.step0 f7
    have bS7 := Cod.bxd_fr0 bS5 g7
    have HG7 := Lib.hid (HG5.out.fr0 g7)
    have HK7 := Lib.hid (show TuK W4 w6 w7 A5 c5 rs5 ys A7 c7 ro os P ⟨M + 1, 2⟩ from ⟨own_new0 HO5.out g7, HX5.out.map fun r x k => k.fr g7 (NoHS.nob _), oo7, ow7, bS7⟩)
    have F7 := Lib.hid (F5.out.step0 g7)
    have HSR := Lib.hid (show rightS ⟨M + 1, 2⟩ = true by unfold rightS; have := HM.out; have := HMM.out; simp only [Bool.and_eq_true, decide_eq_true_eq]; omega)
    have HFX := Lib.hid (fun s => show findR (runX [] L) s = findR xs6 s from (findR_perm p6 HG.out.gvt.nd s).symm)
    have HHD := Lib.hid hd7
    have HPW := Lib.hid hpw7
    have HLO := Lib.hid hl7
    clear hd7 hpw7 hl7 s7 i7 b7 oo7 ow7 fd f6 f7 g6 g7 bS5 qS5 bS7 o6 x6 ap6 p6 r6 HO5 HX5 HG4 HG5 F5
    by_cases hE : E = 0
    · subst hE
      obtain ⟨l, hl1, hl2, hl3⟩ := HPW.out rfl
      obtain ⟨tX, tY, _, _, hgd, hone, h64⟩ := HHD.out.ok rfl
      obtain ⟨hdo, hed⟩ := turn_all tX tY HFX.out hl1 hl3 hone ⟨M + 1, 2⟩
      rw [← hl2] at hdo hed
      have HDO := Lib.hid (fun k (h : k < os.length) => doesAll_get hdo k h)
      have HED := Lib.hid hed
      have HTY := Lib.hid tY
      have HGD := Lib.hid hgd
      have HAT := Lib.hid (show ∀ i (h : i < os.length), os[i].At = ⟨M + 1 + i, 2⟩ from fun i h => by
        have := allO_at (a := xs6) (b := ys) (l := l) (s := ⟨M + 1, 2⟩) i (by rw [← hl2]; exact h)
        rw [← this]
        simp only [hl2])
      have H64 := Lib.hid h64
      have HSRT := Lib.hid (fun k => srt_told (s := ⟨M + 1, 2⟩) HT.out.srt (fun o ho => Int.le_trans (HT.out.T o ho) HM.out.1) (show M < M + 1 by omega) HAT.out k)
      clear hl1 hl2 hl3 tX tY hgd hone h64 hdo hed HPW HHD
      go_wp2_with fail
      have hi0 : TuLoop W W4 w6 w1.heap.size b L A5 c5 rs5 ys A7 c7 ro os P ⟨M + 1, 2⟩ os.length (.int .i64 ((0 : Nat) : Int)) w7 := ⟨0, t, rfl, rfl, Nat.zero_le _, by simpa using HG7.out, HK7.out, F7.out⟩
      go_loopg [54] os.length (fun gk iv wr => TuLoop W W4 w6 w1.heap.size b L A5 c5 rs5 ys A7 c7 ro os P ⟨M + 1, 2⟩ gk iv wr)
      case atStart => exact hi0
      case round =>
        clear hi0
        obtain ⟨k, tk, rfl, rfl, hk, hG, hK, hf⟩ := hrel
        by_cases hlt : k < os.length
        · have j0 : (0 : Int) ≤ (k : Int) := by omega
          have j1 : (k : Int) < (os.length : Int) := by omega
          have hlr : k < ro.length := by rw [HLO.out]; exact hlt
          have hsl : Sl wr A7 (codO.row ro) := Sl.own hK.c
          obtain ⟨g, off, rfl, hgg⟩ := hsl.adC (by omega)
          have e1 : codO.rd wr g (off + k * 41) = some ro[k] := hsl.rd k hlr
          have hin := (hK.d.at_ k hlr hlt).1
          have hgd := HGD.out _ (List.getElem_mem hlt)
          have hdoe := HDO.out k hlt
          have hlat := (HSRT.out k).2.1 hlt
          have hat := HAT.out k hlt
          have HTK := Lib.hid (show L ++ os.take (k + 1) = (L ++ os.take k) ++ os[k] :: [] by rw [List.take_succ_eq_append_getElem hlt, List.append_assoc])
          generalize ro[k] = r at e1 hin
          generalize os[k] = o at hin hgd hdoe hlat hat HTK
          have HLT := Lib.hid hlt
          have HKK := Lib.hid (show k ≤ 64 by have := H64.out; omega)
          have HIN := Lib.hid hin
          have HGO := Lib.hid hgd
          have HDE := Lib.hid hdoe
          have HLA := Lib.hid hlat
          have HTO := Lib.hid hat
          clear hk hlt hlr hsl hgg hin hgd hdoe hlat hat
          go_upto_region 15 with fail
          have f12 : Fr noB wr (wr.alloc (codO.o r)) := (Fr.refl noB wr).alloc _
          have q12 := Cod.bxd_new (C := codO) wr r
          have HG12 := Lib.hid (hG.fr0 f12)
          have HK12 := Lib.hid (hK.fr0 f12)
          have HIN12 := Lib.hid (HIN.out.fr f12)
          have F12 := Lib.hid (hf.step0 f12)
          clear e1 f12 hG hK hf HIN
          generalize wr.alloc (codO.o r) = W12 at q12 HG12 HK12 HIN12 F12 ⊢
          generalize wr.heap.size = D2 at q12 ⊢
          have hlen : (L ++ os.take k).length ≤ 94 := by
            have := HT.out.len
            have := HKK.out
            rw [List.length_append, List.length_take]
            omega
          have HLEN := Lib.hid hlen
          clear hlen
          have CRA := Lib.hid (gvRows_any HG12.out (by have := HLEN.out; omega))
          go_upto_region 16 with (go_at_call 8; refine CRA.out.mono ?_; rintro e wa ⟨Aa, ca, ra, za, rfl, oa, xa, _, pa, sa, fa⟩)
          have HGa := Lib.hid (HG12.out.fr0 fa)
          have HKa := Lib.hid (HK12.out.fr0 fa)
          have Fa := Lib.hid (F12.out.step0 fa)
          have CI := Lib.hid (gvIns_mid (L ++ os.take k) [] (by rw [List.append_nil]; exact HGa.out) (by rw [List.append_nil]; exact (HSRT.out k).1) (by rw [List.append_nil]; have := HLEN.out; omega) r o (HIN12.out.fr fa) (by have := goodOp_over HGO.out; omega) HGO.out HLA.out (by simp))
          have HOA := Lib.hid (And.intro oa (And.intro xa pa))
          have qa := Cod.bxd_rd (Cod.bxd_fr0 q12 fa)
          have HRX := Lib.hid (run_RwG HGa.out.ok (HSRT.out k).1 (by have := HLEN.out; omega) (N := M + k) (fun p hp => by have := (HSRT.out k).2.2 p hp; have e : (⟨M + 1, 2⟩ : St).T = M + 1 := rfl; omega))
          clear CRA oa xa pa sa fa q12 HG12 HK12 HIN12 F12
          have key : ∀ (w5 w6 : World) (t5 : TrW) (f5 : Fr (trM b tk) wa w5) (h5 : GvS w1.heap.size w5 b t5 ((L ++ os.take k) ++ o :: [])) (f6 : Fr noB w5 w6) (Ab : Option Addr) (cb : Nat) (rb : List RwW) (zb : List RwP) (wb : World), Fr noB w6 wb → OwnC codR w6 wb Ab cb rb → AllO (RwN w6.heap.size) wb rb zb → zb.Perm (runX [] ((L ++ os.take k) ++ o :: [])) → Calls Tryz.prog 13 #[.slice Aa ra.length ca, .slice Ab rb.length cb] wb (Gives wb (.bool false)) := fun w5 w6 t5 f5 h5 f6 Ab cb rb zb wb fb ob xb pb => by
            have ho5 := HGa.out.own f5 HOA.out.1 (by decide) (by decide)
            have hx5 : AllO (RwN W12.heap.size) w5 ra za := HOA.out.2.1.map fun r x k => k.fr f5 HGa.out.nohsX
            have gb := f6.step0 fb
            have hla : ra.length ≤ 200 := by rw [HOA.out.2.1.1, HOA.out.2.2.length_eq]; have := runX_len [] (L ++ os.take k); have := HLEN.out; simp only [List.length_nil] at *; omega
            have hlb : rb.length ≤ 200 := by rw [xb.1, pb.length_eq]; have := runX_len [] ((L ++ os.take k) ++ o :: []); have := HLEN.out; simp only [List.length_nil, List.length_append, List.length_cons] at *; omega
            have h := r12sameY_any wb Aa Ab ca cb _ _ ra rb za zb rfl rfl (Sl.own (own_new0 ho5 gb)) (Sl.own ob) ⟨hx5.1, fun i h h' => ((hx5.2 i h h').row.inn).fr gb⟩ ⟨xb.1, fun i h h' => (xb.2 i h h').row.inn⟩ (by omega) (by omega)
            have hne : za ≠ zb := does_turns (o := o) (N := M + k) HRX.out (by rw [HTO.out]; show M + (k : Int) < M + 1 + k; omega) (by have := HDE.out; rwa [← runX_app] at this) HOA.out.2.2 (by rw [show doX (runX [] (L ++ os.take k)) o = runX [] ((L ++ os.take k) ++ o :: []) from (runX_app [] (L ++ os.take k) [o]).symm]; exact pb)
            rw [show decide (za = zb) = false by simp [hne]] at h
            exact h
          have HKEY := Lib.hid key
          clear key
          go_wp2_with (first
            | (go_at_call 11; go_loud (refine CI.out.mono ?_; rintro e w5 ⟨t5, rfl, h5, u5, m5, f5⟩))
            | (go_at_call 12; go_loud (refine (gvUndone_any h5).mono ?_; rintro e wu ⟨rfl, f6⟩; rw [u5]))
            | (go_at_call 8; go_loud (refine (gvRows_any (h5.fr0 f6) (by have := HLEN.out; rw [List.length_append]; simp only [List.length_cons, List.length_nil]; omega)).mono ?_; rintro e w7' ⟨Ab, cb, rb, zb, rfl, ob, xb, _, pb, sb, fb⟩))
            | (go_at_call 13; go_loud (refine (HKEY.out w5 wu t5 f5 h5 f6 Ab cb rb zb w7' fb ob xb pb).mono ?_; rintro e w8 ⟨rfl, f8⟩)))
          have gE := (f6.step0 fb).step0 f8
          have HNX := Lib.hid (show GvS w1.heap.size w8 b t5 (L ++ os.take (k + 1)) ∧ TuK W4 w6 w8 A5 c5 rs5 ys (some ⟨g, off, none⟩) c7 ro os P ⟨M + 1, 2⟩ ∧ Fr noB W w8 from ⟨by rw [HTK.out]; exact h5.fr0 gE, (HKa.out.frT HGa.out f5).fr0 gE, (Fa.out.step f5 (fun q hq => .inl (Nat.le_trans F1.out (HGa.out.base hq)))).step0 gE⟩)
          clear f5 h5 u5 m5 f6 ob xb pb sb fb f8 gE
          go_roundg (os.length - (k + 1))
          case measure => have := HLT.out; omega
          case rel => exact ⟨k + 1, t5, by first | (simp; done) | exact congrArg (Value.int .i64) (IntWalk.wrap64_in _ (by have := HKK.out; omega)), rfl, HLT.out, HNX.out.1, HNX.out.2.1, HNX.out.2.2⟩
        · have j1 : ¬ (k : Int) < (os.length : Int) := by omega
          have hke : k = os.length := by omega
          rw [hke, List.take_length] at hG
          have hlen : (L ++ os).length ≤ 94 := by have := HT.out.len; have := H64.out; rw [List.length_append]; omega
          have HLEN := Lib.hid hlen
          have HGE := Lib.hid hG
          have HKE := Lib.hid hK
          have FE := Lib.hid hf
          have HSE := Lib.hid (show SrtL (L ++ os) by have := (HSRT.out os.length).1; rwa [List.take_length] at this)
          have HTE := Lib.hid (show ∀ p ∈ L ++ os, p.At.T ≤ M + 65 from fun p hp => by
            have h1 := (HSRT.out os.length).2.2 p (by rw [List.take_length]; exact hp)
            have h2 := H64.out
            have e : (⟨M + 1, 2⟩ : St).T = M + 1 := rfl
            omega)
          have HTR := Lib.hid (fun (zs : List RwP) (hp : zs.Perm (runX [] (L ++ os))) hr => tree_g HGE.out.ok HSE.out (by have := HLEN.out; omega) HTE.out (by have := HMM.out; omega) HGE.out.gvt hp hr)
          have HRX := Lib.hid (run_RwG HGE.out.ok HSE.out (by have := HLEN.out; omega) HTE.out)
          have CR1 := Lib.hid (fun w' (f : Fr noB wr w') => gvRows_any (HGE.out.fr0 f) (by have := HLEN.out; omega))
          clear hG hK hf hlen hke hk hlt
          go_upto_region 21 with (first
            | (go_at_call 8; refine (CR1.out _ (Fr.refl noB _)).mono ?_; rintro e wa ⟨Aa, ca, ra, za, rfl, oa, xa, _, pa, sa, fa⟩)
            | (go_at_call 10; go_loud (refine (alike_any wa Aa A5 ca c5 _ _ ra rs5 za ys rfl rfl (Sl.own oa) (Sl.own (HKE.out.fr0 fa).a) ⟨xa.1, fun i h h' => (xa.2 i h h').row.inn⟩ ⟨(HKE.out.fr0 fa).b.1, fun i h h' => ((HKE.out.fr0 fa).b.2 i h h').row.inn⟩ (by rw [xa.1]; have := (HTR.out za pa sa).len; omega) (by rw [HLY.out]; have := HY.out.len; omega) (HTR.out za pa sa).nd HY.out.gv.nd (fun y hy => by have := (HRX.out y (pa.mem_iff.1 hy)).hl; omega) (fun y hy => by have := HY.out.few y hy; omega)).mono ?_; rintro e wb ⟨rfl, fb⟩; rw [turn_alike (xs := xs6) HTY.out (HTR.out za pa sa) ((by have := HED.out; rw [← runX_app] at this; exact this : EdX xs6 ys (runX [] (L ++ os)) ys).perm (fun s => findR_perm pa HGE.out.gvt.nd s))])))
          have gb := fa.step0 fb
          have HKB := Lib.hid (Cod.bxd_rd (Cod.bxd_fr0 HKE.out.e gb))
          have FB := Lib.hid gb
          clear oa xa pa sa fa fb gb
          have hk2 : ∀ w' w'' : World, Fr noB w' w'' → (codS.rd w' P 0 = some ⟨M + 1, 2⟩) → (codS.rd w'' P 0 = some (⟨M + 1, 2⟩ : St)) := fun w' w'' f h => Cod.rd_fr0 h f
          have fd : Fr noB wb wb.drew := (Fr.refl noB wb).drew
          have hF0 := hk2 _ _ fd HKB.out
          refine wp_region_M 10 11 [⟨4835703278458516698824704, 32, 0⟩, ⟨9671406556917033397649408, 4835703278458516698824704, 1⟩, ⟨19342813113834066795298816, 32, 0⟩, ⟨38685626227668133590597632, 19342813113834066795298816, 6⟩, ⟨77371252455336267181195264, 512, 0⟩, ⟨154742504910672534362390528, 125728285239921434169442304, 26⟩, ⟨2417851639229258349412352, 154742504910672534362390528, 32⟩, ⟨309485009821345068724781056, 2417851639229258349412352, 64⟩, ⟨618970019642690137449562112, 2417851639229258349412352, 64⟩, ⟨65536, 309485009821345068724781056, 255⟩, ⟨131072, 618970019642690137449562112, 1023⟩] [(true, 0), (true, 2), (true, 4), (false, 1), (false, 3), (false, 5), (true, 6), (true, 7), (true, 8), (true, 9)] (fun w' => codS.rd w' P 0 = some (⟨M + 1, 2⟩ : St)) (by kernel_rfl) rfl (by kernel_rfl) (by kernel_rfl) (by kernel_rfl) hF0 (fun hA hF => ?_)
          iterate 3
            refine wpAnyS_take (v := ?_) hA rfl (fun _ _ _ h => h) (Or.inl ⟨by rfl, ?_⟩) hF (fun hA => ?_)
            rotate_left
            · intro wS hSw; (try dsimp only at hSw); obtain s1 := hSw; first | (apply Eq.trans; apply ex_ld_id; exact rfl; exact rfl; assumption; with_reducible rfl) | (apply Eq.trans; apply ex_ldR_at; exact rfl; exact rfl; assumption; with_reducible rfl) | (apply Eq.trans; apply ex_ldO_at; exact rfl; exact rfl; assumption; with_reducible rfl) | (apply Eq.trans; apply ex_ldS_at; exact rfl; exact rfl; assumption; with_reducible rfl) | (go_simp; try with_reducible rfl)
            try simp only [List.getElem_toArray, List.getElem_cons_zero, List.getElem_cons_succ, Act.put, List.setIfInBounds_toArray, List.set_cons_zero, List.set_cons_succ]
          refine wpAnyS_one hA rfl (fun K' hK => ?_)
          go_simp
          go_at_call 8
          refine (CR1.out _ (FB.out.step0 fd)).mono ?_
          rintro e v1 ⟨A1, c1, r1, z1, rfl, o1, x1, _, p1, s1, f1⟩
          replace hF := hk2 _ _ f1 hF
          refine hK.out _ _ hF (fun hA => ?_)
          clear hK K'
          as_aux_lemma =>
          refine wpAnyS_one hA rfl (fun K' hK => ?_)
          go_simp
          go_at_call 8
          refine (CR1.out _ ((FB.out.step0 fd).step0 f1)).mono ?_
          rintro e v2 ⟨A2, c2, r2, z2, rfl, o2, x2, _, p2, s2, f2⟩
          replace hF := hk2 _ _ f2 hF
          refine hK.out _ _ hF (fun hA => ?_)
          clear hK K'
          as_aux_lemma =>
          obtain rfl : z2 = z1 := by
            refine (p2.trans p1.symm).eq_of_pairwise (le := fun a b : RwP => cmpS a.Node b.Node < 0) (fun a b _ _ hab hba => ?_) s2 s1
            have := cmpS_flip a.Node b.Node
            omega
          have HTZ := Lib.hid (HTR.out z2 p2 s2)
          have CD := Lib.hid (diff_any v2 A1 A2 c1 c2 _ _ r1 r2 z2 z2 rfl rfl (Sl.own (own_new0 o1 f2)) (Sl.own o2) ⟨x1.1, fun i h h' => ((x1.2 i h h').row.inn).fr f2⟩ ⟨x2.1, fun i h h' => (x2.2 i h h').row.inn⟩ (by rw [x1.1]; have := HTZ.out.len; omega) (by rw [x2.1]; have := HTZ.out.len; omega) (fun y hy => by have := (HRX.out y (p2.mem_iff.1 hy)).hl; omega) (fun y hy => by have := (HRX.out y (p2.mem_iff.1 hy)).hl; omega) ⟨M + 1, 2⟩)
          refine wpAnyS_one hA rfl (fun K' hK => ?_)
          go_simp
          go_at_call 9
          refine CD.out.mono ?_
          rintro e v3 ⟨E3, A3, c3, ro3, os3, rfl, hl3, s3, i3, b3, f3, hd3, _⟩
          replace hF := hk2 _ _ f3 hF
          refine hK.out _ _ hF (fun hA => ?_)
          clear hK K'
          as_aux_lemma =>
          iterate 4
            refine wpAnyS_take (v := ?_) hA rfl (fun _ _ _ h => h) (Or.inl ⟨by rfl, ?_⟩) hF (fun hA => ?_)
            rotate_left
            · intro wS hSw; (try dsimp only at hSw); obtain s1 := hSw; first | (apply Eq.trans; apply ex_ld_id; exact rfl; exact rfl; assumption; with_reducible rfl) | (apply Eq.trans; apply ex_ldR_at; exact rfl; exact rfl; assumption; with_reducible rfl) | (apply Eq.trans; apply ex_ldO_at; exact rfl; exact rfl; assumption; with_reducible rfl) | (apply Eq.trans; apply ex_ldS_at; exact rfl; exact rfl; assumption; with_reducible rfl) | (go_simp; try with_reducible rfl)
            try simp only [List.getElem_toArray, List.getElem_cons_zero, List.getElem_cons_succ, Act.put, List.setIfInBounds_toArray, List.set_cons_zero, List.set_cons_succ]
          refine wpAnyS_end hA rfl ?_
          simp only [List.drop_succ_cons, List.drop_zero]
          obtain ⟨rfl, rfl⟩ := diff_self HTZ.out HSR.out hd3
          have FF := Lib.hid ((((FE.out.step0 ((FB.out.step0 fd).step0 f1)).step0 f2).step0 f3))
          clear hF hk2 hF0 CD o1 x1 p1 s1 f1 o2 x2 p2 s2 f2 hl3 s3 i3 b3 f3 hd3 fd
          go_wp2_with fail
          go_ret
          exact ⟨rfl, FF.out⟩
    · have hE3 : E = 3 := by
        rcases HHD.out.many (HXG.out.tree (by have := HM.out; have := HMM.out; omega)) (HY.out.tree (by have := HM.out; have := HMM.out; omega)) HSR.out (fun l hl => allO_good HXG.out HY.out hl HSR.out (show M < M + 1 by omega) (show M + 1 ≤ 549755813889 by have := HMM.out; omega)) with h | h
        · exact absurd h hE
        · exact h
      subst hE3
      clear hE
      go_wp2_with fail
      go_ret
      exact ⟨rfl, F7.out⟩
theorem lawTurns14 (W : World) (A : Option Addr) (c : Nat) (rs : List OpW) (xs : List Opn) (hs : Sl W A (codO.row rs)) (hb : rs.length ≤ 140737488355328) (hX : OpsIn W rs xs)
    (B : Option Addr) (d : Nat) (ss : List OpW) (zs : List Opn) (hs2 : Sl W B (codO.row ss)) (hb2 : ss.length ≤ 140737488355328) (hX2 : OpsIn W ss zs) :
    Calls Tryz.prog 4 #[.slice A rs.length c, .slice B ss.length d] W (Gives W (.bool true)) := lawTurns_any W A c rs xs hs hb hX B d ss zs hs2 hb2 hX2
end Go.Proofs.YtefcalkbfaefgaaGreat
