/- The walk of GroveTree. (ex_ldS_at, ex_ldR_at, ex_ldO_at, rdI) -/
import Derived.Test.YtdandpaeeodolaaGreatGlFK
import Derived.Test.YtdandpaeeodolaaGreatGlPK
namespace Go.Proofs.YtdandpaeeodolaaGreat
open Go.RowKit Go.Sort
set_option linter.unusedVariables false
set_option linter.unusedSimpArgs false
attribute [local go_sem] Oper.semAt_some

theorem scmpG_any (w : World) (a b : St) : Calls Tryz.prog 13 #[.agg (codS.A a), .agg (codS.A b)] w (Gives w (.int .i64 (cmpS a b))) := (scmpX_v w a b).mono fun e w' ⟨h1, h2⟩ => ⟨h1, Gr.fr h2⟩
theorem kidsR_le (p : St) (xs : List RwP) : (kidsR p xs).length ≤ xs.length := by
  unfold kidsR
  rw [List.length_map]
  exact List.length_filter_le _ _
theorem sum_take {α : Type} (l : List α) (f : α → Nat) (j : Nat) : ((l.take j).map f).sum ≤ (l.map f).sum ∧ ∀ h : j < l.length, ((l.take (j + 1)).map f).sum = ((l.take j).map f).sum + f l[j] := by
  constructor
  · conv => rhs; rw [← List.take_append_drop j l, List.map_append, List.sum_append]
    omega
  · intro h
    rw [List.take_succ_eq_append_getElem h, List.map_append, List.sum_append]
    simp
/-- is a row what a move says? -/
def mtR (o : Opn) (y : RwP) : Bool := decide (o.Kind = 1) && (decide (o.At = y.At) && (decide (o.Node = y.Node) && (decide (o.Parent = y.Parent) && decide (o.Name = y.Name))))
theorem mtR_from {L : List Opn} {y : RwP} (h : FromL L y) : L.any (fun o => mtR o y) = true := by
  obtain ⟨o, ho, h1, h2, h3, h4, h5⟩ := h
  exact List.any_eq_true.2 ⟨o, ho, by simp [mtR, h1, h2, h3, h4, h5]⟩
theorem any_take {L : List Opn} {p : Opn → Bool} {k : Nat} (h : k < L.length) : (L.take (k + 1)).any p = ((L.take k).any p || p L[k]) := by
  rw [List.take_succ_eq_append_getElem h, List.any_append]
  simp

set_option maxRecDepth 100000 in
set_option maxHeartbeats 16000000 in
theorem lawTree_any (W : World) (A : Option Addr) (c : Nat) (rs : List OpW) (xs : List Opn) (hs : Sl W A (codO.row rs)) (hb : rs.length ≤ 140737488355328) (hX : OpsIn W rs xs) :
    Calls Tryz.prog 3 #[.slice A rs.length c] W (Gives W (.bool true)) := by
  have HX := Lib.hid (show AllO OpIn W rs xs from ⟨hX.len, fun i h1 h2 => hX.at_ i h1 h2⟩)
  have HS := Lib.hid hs
  have HB := Lib.hid hb
  clear hX hs hb
  go_enter Tryz.func3, Tryz.ntmps3
  go_upto_region 4 with (first
    | (go_at_call 8; refine (gvNew_any _).mono ?_; rintro e w1 ⟨b, t0, rfl, h0, hu0, f1⟩)
    | (go_at_call 9; refine (l12alive_any w1).mono ?_; rintro e w2 ⟨rfl, f2⟩))
  have h2 := Lib.hid (h0.fr0 f2)
  have F2 := Lib.hid (f1.step0 f2)
  clear h0 f1 f2 hu0
  go_wp2_with (go_at_call 10; refine (l12few_any W w2 F2.out A c _ rs xs rfl (HS.out.fr0 F2.out) HB.out HX.out).mono ?_; rintro e w3 ⟨A3, c3, os, ys, rfl, o3, y3, g3, l3, f3⟩)
  have hi0 : InsLoop W b w2 A3 c3 os os.length (.int .i64 ((0 : Nat) : Int)) w3 := ⟨0, t0, [], rfl, rfl, Nat.zero_le _, h2.out.fr0 f3, by simp [SrtL], by simp, o3, F2.out.step0 f3⟩
  have Y3 := Lib.hid (And.intro y3 (And.intro g3 l3))
  clear y3 g3 l3 o3 f3 h2 F2 HX HS HB
  go_loopg [27] os.length (fun gk iv wr => InsLoop W b w2 A3 c3 os gk iv wr)
  case atStart => exact hi0
  case round =>
    clear hi0
    obtain ⟨k, t, L, rfl, rfl, hk, hG, hsr, hll, ho, hf⟩ := hrel
    have HG := Lib.hid hG
    have HSR := Lib.hid hsr
    have HLL := Lib.hid hll
    have HO := Lib.hid ho
    have HK := Lib.hid hk
    have HF := Lib.hid hf
    clear hG hsr hll hf
    by_cases hlt : k < os.length
    · have j0 : (0 : Int) ≤ (k : Int) := by omega
      have j1 : (k : Int) < (os.length : Int) := by omega
      obtain ⟨g, off, rfl, hgg⟩ := (Sl.own ho : Sl wr A3 (codO.row os)).adC (by omega)
      have e1 : codO.rd wr g (off + k * 41) = some os[k] := (Sl.own ho : Sl wr _ (codO.row os)).rd k hlt
      have hly : k < ys.length := by rw [← Y3.out.1.1]; exact hlt
      have hin := Y3.out.1.2 k hlt hly
      have hgd := Y3.out.2.1 _ (List.getElem_mem hly)
      have HLT := Lib.hid hlt
      generalize os[k] = r at e1 hin
      generalize ys[k] = x at hin hgd
      have HIN := Lib.hid hin
      have HGD := Lib.hid hgd
      clear ho hk hlt hgg hin hgd hly
      go_upto_region 7 with fail
      have f12 : Fr noB wr (wr.alloc (codO.o r)) := (Fr.refl noB wr).alloc _
      have q12 := Cod.rd_new' (C := codO) wr r
      obtain ⟨D2, hD2⟩ : ∃ x, x = wr.heap.size := ⟨_, rfl⟩
      rw [← hD2] at q12 ⊢
      have h12 := Lib.hid (HG.out.fr0 f12)
      have o12 := Lib.hid (own_new0 HO.out f12)
      have F12 := Lib.hid (HF.out.step0 f12)
      clear hD2 e1 f12 HG HO HF
      generalize wr.alloc (codO.o r) = W12 at q12 h12 o12 F12 ⊢
      have hk9 : k ≤ 100 := by have := HLT.out; have := Y3.out.2.2; omega
      go_wp2_with (go_at_call 11; refine (gvInsert_any _ W12 b t L h12.out HSR.out (by have := HLL.out; omega) r x (HIN.out.fr F12.out) (by have := goodOp_over HGD.out; omega)).mono ?_; rintro e w5 ⟨E, t5, L5, rfl, h5, m5, a5, f5, i5⟩)
      go_roundg (os.length - (k + 1))
      case measure => have := HLT.out; omega
      case rel => exact ⟨k + 1, t5, L5, rfl, rfl, HLT.out, h5, i5.srt HSR.out, by have := i5.len; have := HLL.out; omega, h12.out.own f5 o12.out (by decide) (by decide), F12.out.step f5 (fun q hq => .inl (h12.out.base hq))⟩
    · have j1 : ¬ (k : Int) < (os.length : Int) := by omega
      have HL40 := Lib.hid (show L.length ≤ 40 by have := HLL.out; have := Y3.out.2.2; omega)
      have HOK := Lib.hid HG.out.ok
      clear ho hk hlt HO HK HLL Y3
      have hgv := HG.out.gvt
      have HSELF := Lib.hid (fun (y : RwP) (hy : y ∈ runX [] L) => show liesR (runX [] L) y.Node y.Node = false by
        obtain ⟨k, hk⟩ := hgv.up y hy
        unfold liesR
        exact lies_self hgv (rightS_T (hgv.rt y hy)) _ hk)
      have HONE := Lib.hid (fun (y : RwP) (hy : y ∈ runX [] L) => show liesR (runX [] L) y.Node ⟨0, 1⟩ = !liesR (runX [] L) y.Node zSt by
        obtain ⟨k, hk⟩ := hgv.up y hy
        unfold liesR
        exact lies_one hgv _ _ (reach_len hk) (rightS_T (hgv.rt y hy)))
      have HFROM := Lib.hid (fun (y : RwP) (hy : y ∈ runX [] L) => mtR_from (show FromL L y by simpa using runX_from (M := []) L (fun x hx => by cases hx) y hy))
      have HHDS := Lib.hid (fun (y : RwP) (hy : y ∈ runX [] L) => (runX_hds (M := []) L (by simpa using HSR.out) (fun x hx => by cases hx) y hy).1)
      have HCNT := Lib.hid (fun (zs : List RwP) (hp : zs.Perm (runX [] L)) => show (kidsR zSt (runX [] L)).length + (kidsR ⟨0, 1⟩ (runX [] L)).length + (zs.map fun y => (kidsR y.Node (runX [] L)).length).sum = zs.length from hgv.count hp)
      have HND := Lib.hid hgv.nd
      have HXL := Lib.hid (show (runX [] L).length ≤ 40 by have := runX_len [] L; have := HL40.out; simp only [List.length_nil] at *; omega)
      have HHL := Lib.hid (fun (y : RwP) (hy : y ∈ runX [] L) => show y.Heads.length ≤ 1000000 from HG.out.heads (by have := HL40.out; omega) y hy)
      have HOV := Lib.hid (show ∀ o ∈ L, o.Over.length ≤ 1000000 from fun o ho => by have := goodOp_over (HOK.out o ho); omega)
      clear hgv
      go_upto_region 10 with (go_at_call 12; refine (gvRows_any HG.out (by have := HL40.out; omega)).mono ?_; rintro e w4 ⟨A4, c4, rs4, ys4, rfl, o4, x4, ap4, p4, q4, f4⟩)
      have HG4 := Lib.hid (HG.out.fr0 f4)
      have F4 := Lib.hid (HF.out.step0 f4)
      have hs4 : Sl w4 A4 (codR.row rs4) := Sl.own o4
      have HS4 := Lib.hid hs4
      have HR4 := Lib.hid (show RwsIn w4 rs4 ys4 from ⟨x4.1, fun i h h' => (x4.2 i h h').row.inn⟩)
      have HP4 := Lib.hid p4
      have HQ4 := Lib.hid q4
      have HLY := Lib.hid (show rs4.length = ys4.length from x4.1)
      have HL4 := Lib.hid (show rs4.length ≤ 40 by rw [x4.1, p4.length_eq]; exact HXL.out)
      have hin4 := Lib.hid (fun i (h : i < ys4.length) => show ys4[i] ∈ runX [] L from p4.mem_iff.1 (List.getElem_mem h))
      have DL := Lib.hid (fun (wS : World) (f : Fr noB w4 wS) (s p : St) => (gvLies_any wS A4 c4 _ rs4 ys4 rfl (HS4.out.fr0 f) (by have := HL4.out; omega) (HR4.out.fr f) s p))
      clear hs4 x4 p4 q4 o4 ap4 f4 HG HF
      go_wp2_with fail
      go_loopg [39] rs4.length (fun gk iv wr => ∃ i : Nat, iv = .int .i64 (i : Int) ∧ gk = rs4.length - i ∧ i ≤ rs4.length ∧ Fr noB w4 wr)
      case atStart => exact ⟨0, rfl, rfl, by omega, Fr.refl _ _⟩
      case round =>
        obtain ⟨i, rfl, rfl, hi, fq⟩ := hrel
        by_cases hlt : i < rs4.length
        · have j0 : (0 : Int) ≤ (i : Int) := by omega
          have j1 : (i : Int) < (rs4.length : Int) := by omega
          have hly : i < ys4.length := by rw [← HLY.out]; exact hlt
          obtain ⟨g4, off4, rfl, hg4⟩ := HS4.out.adC (by omega)
          have e2 : codR.rd wr g4 (off4 + i * 8) = some rs4[i] := (HS4.out.fr0 fq).rd i hlt
          have rin := HR4.out.at_ i hlt hly
          have hym := hin4.out i hly
          have PRV := Lib.hid (fun (j : Nat) (hj : j < rs4.length) (hji : j < i) => show codS.rd wr g4 (off4 + j * 8) = some (ys4[j]'(by rw [← HLY.out]; exact hj)).Node ∧ cmpS (ys4[j]'(by rw [← HLY.out]; exact hj)).Node ys4[i].Node = -1 by
            have hj' : j < ys4.length := by rw [← HLY.out]; exact hj
            have h1 := (rwAtO ((HS4.out.fr0 fq).rd j hj)).node
            rw [← (HR4.out.at_ j hj hj').node] at h1
            exact ⟨h1, cmpS_neg ((List.pairwise_iff_getElem.1 HQ4.out) j i hj' hly hji)⟩)
          have HLT := Lib.hid hlt
          have HI := Lib.hid hi
          have hi40 : i ≤ 40 := by have := HL4.out; omega
          generalize rs4[i] = r at e2 rin
          generalize ys4[i] = y at rin hym PRV
          have HYM := Lib.hid hym
          clear hym hi hly
          go_upto_region 13 with fail
          have f12 : Fr noB wr (wr.alloc (codR.o r)) := (Fr.refl noB wr).alloc _
          have q12 := rwAt (Cod.rd_new' (C := codR) wr r)
          have hD : wr.heap.size < (wr.alloc (codR.o r)).heap.size := by simp
          obtain ⟨D, hDe⟩ : ∃ x, x = wr.heap.size := ⟨_, rfl⟩
          rw [← hDe] at q12 hD ⊢
          obtain ⟨d1, d2, d3, d4, d5, d6⟩ := q12
          rw [← rin.node] at d1
          rw [← rin.parent] at d2
          rw [← rin.at_] at d3
          rw [← rin.name] at d4
          have RIN := Lib.hid ((rin.fr fq).fr f12)
          have F12 := fq.step0 f12
          have PRV12 := Lib.hid (fun (j : Nat) (hj : j < rs4.length) (hji : j < i) => And.intro (Cod.rd_fr0 (PRV.out j hj hji).1 f12) (PRV.out j hj hji).2)
          have hg4' : g4 < (wr.alloc (codR.o r)).heap.size := Nat.lt_of_lt_of_le hg4 F12.size
          clear d6 hDe e2 PRV rin fq hg4 f12
          generalize wr.alloc (codR.o r) = W12 at d1 d2 d3 d4 d5 hD RIN F12 PRV12 hg4' ⊢
          have D1 : ∀ wS, Fr noB W12 wS → Calls Tryz.prog 14 #[.slice (some ⟨g4, off4, none⟩) rs4.length c4, .agg (codS.A y.Node), .agg (codS.A y.Node)] wS (Gives wS (.bool false)) := fun wS f => by
            have := DL.out wS (F12.step0 f) y.Node y.Node
            rw [liesR_perm HP4.out HND.out, HSELF.out y HYM.out] at this
            exact this
          by_cases hi0 : i = 0
          · have j2 : ¬ (0 : Int) < (i : Int) := by omega
            have j9 : ¬ 0 < i := by omega
            have D2 : True := trivial
            clear hi0 PRV12
            refine wp_region_fr (by kernel_rfl) (by kernel_rfl) ?_
            iterate 3
              refine wpQ_take (v := ?_) (by rfl) (fun wS hS => ?_) ?_
              rotate_left
              · obtain ⟨L1, L2, L3, L4, L5, L6⟩ := Fr.same hS; go_simp; try with_reducible rfl
              try simp only [List.getElem_toArray, List.getElem_cons_zero, List.getElem_cons_succ, Act.put, List.setIfInBounds_toArray, List.set_cons_zero, List.set_cons_succ]
            iterate 10
              refine wpQ_off (by rfl) ?_
              try simp only [List.getElem_toArray, List.getElem_cons_zero, List.getElem_cons_succ, Act.put, List.setIfInBounds_toArray, List.set_cons_zero, List.set_cons_succ]
            iterate 7
              refine wpQ_take (v := ?_) (by rfl) (fun wS hS => ?_) ?_
              rotate_left
              · obtain ⟨L1, L2, L3, L4, L5, L6⟩ := Fr.same hS; go_simp; try with_reducible rfl
              try simp only [List.getElem_toArray, List.getElem_cons_zero, List.getElem_cons_succ, Act.put, List.setIfInBounds_toArray, List.set_cons_zero, List.set_cons_succ]
            refine wpQ_call (by rfl) (fun wS hS => ⟨_, _, ?qh189, Calls.fr hS (D1 _ hS)⟩) ?qk189
            case qh189 => obtain ⟨L1, L2, L3, L4, L5, L6⟩ := Fr.same hS; go_simp; try with_reducible rfl
            try simp only [List.getElem_toArray, List.getElem_cons_zero, List.getElem_cons_succ, Act.put, List.setIfInBounds_toArray, List.set_cons_zero, List.set_cons_succ]
            refine wpQ_take (v := ?_) (by rfl) (fun wS hS => ?_) ?_
            rotate_left
            · obtain ⟨L1, L2, L3, L4, L5, L6⟩ := Fr.same hS; go_simp; try with_reducible rfl
            try simp only [List.getElem_toArray, List.getElem_cons_zero, List.getElem_cons_succ, Act.put, List.setIfInBounds_toArray, List.set_cons_zero, List.set_cons_succ]
            refine wpQ_nil ?_
            intro w1 f1
            obtain ⟨WA, rfl⟩ : ∃ x, x = w1 := ⟨_, rfl⟩
            have F13 := Lib.hid (F12.step0 f1)
            have g4lt := Nat.lt_of_lt_of_le hg4' f1.size
            have Dlt := Nat.lt_of_lt_of_le hD f1.size
            have nn1 := Cod.rd_fr0 d1 f1
            have nn2 := Cod.rd_fr0 d2 f1
            have nn3 := Cod.rd_fr0 d3 f1
            have nn4 := cell_fr0 d4 f1
            have nn5 := cell_fr0 d5 f1
            have RIN13 := Lib.hid (RIN.out.fr f1)
            clear f1 D1 D2
            go_upto_region 15 with fail
            obtain ⟨z, hz1, hz2⟩ : ∃ z, liesR ys4 y.Node zSt = z ∧ liesR ys4 y.Node ⟨0, 1⟩ = !z := ⟨_, rfl, by
              rw [liesR_perm HP4.out HND.out y.Node ⟨0, 1⟩, liesR_perm HP4.out HND.out y.Node zSt]
              exact HONE.out y HYM.out⟩
            have D3 : ∀ wS, Fr noB WA wS → Calls Tryz.prog 14 #[.slice (some ⟨g4, off4, none⟩) rs4.length c4, .agg (codS.A y.Node), .agg (codS.A zSt)] wS (Gives wS (.bool z)) := fun wS f => by
              have := DL.out wS (F13.out.step0 f) y.Node zSt
              rw [hz1] at this
              exact this
            have D4 : ∀ wS, Fr noB WA wS → Calls Tryz.prog 14 #[.slice (some ⟨g4, off4, none⟩) rs4.length c4, .agg (codS.A y.Node), .agg (codS.A ⟨0, 1⟩)] wS (Gives wS (.bool !z)) := fun wS f => by
              have := DL.out wS (F13.out.step0 f) y.Node ⟨0, 1⟩
              rw [hz2] at this
              exact this
            clear hz1 hz2
            refine wp_region_fr (by kernel_rfl) (by kernel_rfl) ?_
            iterate 4
              refine wpQ_take (v := ?_) (by rfl) (fun wS hS => ?_) ?_
              rotate_left
              · obtain ⟨L1, L2, L3, L4, L5, L6⟩ := Fr.same hS; go_simp; try with_reducible rfl
              try simp only [List.getElem_toArray, List.getElem_cons_zero, List.getElem_cons_succ, Act.put, List.setIfInBounds_toArray, List.set_cons_zero, List.set_cons_succ]
            refine wpQ_call (by rfl) (fun wS hS => ⟨_, _, ?qh228, Calls.fr hS (D3 _ hS)⟩) ?qk228
            case qh228 => obtain ⟨L1, L2, L3, L4, L5, L6⟩ := Fr.same hS; go_simp; try with_reducible rfl
            try simp only [List.getElem_toArray, List.getElem_cons_zero, List.getElem_cons_succ, Act.put, List.setIfInBounds_toArray, List.set_cons_zero, List.set_cons_succ]
            iterate 4
              refine wpQ_take (v := ?_) (by rfl) (fun wS hS => ?_) ?_
              rotate_left
              · obtain ⟨L1, L2, L3, L4, L5, L6⟩ := Fr.same hS; go_simp; try with_reducible rfl
              try simp only [List.getElem_toArray, List.getElem_cons_zero, List.getElem_cons_succ, Act.put, List.setIfInBounds_toArray, List.set_cons_zero, List.set_cons_succ]
            refine wpQ_call (by rfl) (fun wS hS => ⟨_, _, ?qh236, Calls.fr hS (D4 _ hS)⟩) ?qk236
            case qh236 => obtain ⟨L1, L2, L3, L4, L5, L6⟩ := Fr.same hS; go_simp; try with_reducible rfl
            try simp only [List.getElem_toArray, List.getElem_cons_zero, List.getElem_cons_succ, Act.put, List.setIfInBounds_toArray, List.set_cons_zero, List.set_cons_succ]
            refine wpQ_take (v := ?_) (by rfl) (fun wS hS => ?_) ?_
            rotate_left
            · obtain ⟨L1, L2, L3, L4, L5, L6⟩ := Fr.same hS; go_simp; try with_reducible rfl
            try simp only [List.getElem_toArray, List.getElem_cons_zero, List.getElem_cons_succ, Act.put, List.setIfInBounds_toArray, List.set_cons_zero, List.set_cons_succ]
            refine wpQ_nil ?_
            intro w1 f1
            have hzz : (z == !z) = false := by cases z <;> rfl
            have F14 := F13.out.step0 f1
            replace nn1 := Cod.rd_fr0 nn1 f1
            replace nn2 := Cod.rd_fr0 nn2 f1
            replace nn3 := Cod.rd_fr0 nn3 f1
            replace nn4 := cell_fr0 nn4 f1
            replace nn5 := cell_fr0 nn5 f1
            replace RIN13 := Lib.hid (RIN13.out.fr f1)
            have HG14 := Lib.hid (HG4.out.fr0 F14)
            clear f1 F13 D3 D4 g4lt Dlt
            obtain ⟨WB, rfl⟩ : ∃ x, x = w1 := ⟨_, rfl⟩
            go_upto_region 18 with fail
            go_wp2_with (go_at_call 15; refine (gvOps_any HG14.out HSR.out (by have := HL40.out; omega) HOV.out).mono ?_; rintro e w7 ⟨A7, c7, os7, rfl, s7, x7, _, f7⟩)
            have F15 := Lib.hid (F14.step0 f7)
            replace nn1 := Cod.rd_fr0 nn1 f7
            replace nn2 := Cod.rd_fr0 nn2 f7
            replace nn3 := Cod.rd_fr0 nn3 f7
            replace nn4 := cell_fr0 nn4 f7
            replace nn5 := cell_fr0 nn5 f7
            replace RIN13 := Lib.hid (RIN13.out.fr f7)
            have NN := Lib.hid (And.intro nn1 (And.intro nn2 (And.intro nn3 (And.intro nn4 nn5))))
            have S7 := Lib.hid s7
            have X7 := Lib.hid x7
            have L7 := Lib.hid (show os7.length = L.length from x7.1)
            clear f7 HG14 F14 nn1 nn2 nn3 nn4 nn5 s7 x7
            go_loopg [80, 9] os7.length (fun gk jv fv wr => ∃ j : Nat, jv = .int .i64 (j : Int) ∧ gk = os7.length - j ∧ j ≤ os7.length ∧ fv = .bool ((L.take j).any (fun o => mtR o y)) ∧ Fr noB w7 wr)
            case atStart => exact ⟨0, rfl, rfl, by omega, rfl, Fr.refl _ _⟩
            case round =>
              obtain ⟨j, rfl, rfl, hj, rfl, fj⟩ := hrel
              by_cases hjl : j < os7.length
              · have jj0 : (0 : Int) ≤ (j : Int) := by omega
                have jj1 : (j : Int) < (os7.length : Int) := by omega
                have hjL : j < L.length := by rw [← L7.out]; exact hjl
                obtain ⟨g7, off7, rfl, hg7⟩ := S7.out.adC (by omega)
                have e7 : codO.rd wr g7 (off7 + j * 41) = some os7[j] := (S7.out.fr0 fj).rd j hjl
                have oin := (X7.out.2 j hjl hjL).op.inn.eq
                have HTK := Lib.hid (any_take (p := fun o => mtR o y) hjL)
                have HJL := Lib.hid hjl
                have hj9 : j ≤ 100 := by have := L7.out; have := HL40.out; omega
                generalize os7[j] = ro at e7 oin
                generalize L[j] = o at oin HTK
                obtain ⟨fn, hfn⟩ : ∃ fn, fn = (L.take (j + 1)).any (fun o => mtR o y) := ⟨_, rfl⟩
                have HFE := Lib.hid hfn
                rw [← hfn] at HTK
                clear hfn
                generalize (L.take j).any (fun o => mtR o y) = fo at HTK ⊢
                have OI := Lib.hid (show o.Kind = ro.Kind ∧ o.At = ro.At ∧ o.Node = ro.Node ∧ o.Parent = ro.Parent ∧ o.Name = ro.Name by rw [oin]; exact ⟨rfl, rfl, rfl, rfl, rfl⟩)
                clear oin hj hjl hjL hg7
                go_upto_region 21 with fail
                have f8 : Fr noB wr (wr.alloc (codO.o ro)) := (Fr.refl noB wr).alloc _
                obtain ⟨p1, _, _, p4, p5, p6, p7, _, _, _⟩ := opAt (Cod.rd_new' (C := codO) wr ro)
                obtain ⟨m1, m2, m3, m4, m5'⟩ := NN.out
                replace m1 := Cod.rd_fr0 (Cod.rd_fr0 m1 fj) f8
                replace m2 := Cod.rd_fr0 (Cod.rd_fr0 m2 fj) f8
                replace m3 := Cod.rd_fr0 (Cod.rd_fr0 m3 fj) f8
                replace m4 := cell_fr0 (cell_fr0 m4 fj) f8
                rw [← OI.out.1] at p1
                rw [← OI.out.2.1] at p4
                rw [← OI.out.2.2.1] at p5
                rw [← OI.out.2.2.2.1] at p6
                rw [← OI.out.2.2.2.2] at p7
                obtain ⟨D8, hD8⟩ : ∃ x, x = wr.heap.size := ⟨_, rfl⟩
                rw [← hD8] at p1 p4 p5 p6 p7 ⊢
                have F8 := Lib.hid (fj.step0 f8)
                clear e7 fj f8 hD8 m5'
                generalize wr.alloc (codO.o ro) = W8 at p1 p4 p5 p6 p7 m1 m2 m3 m4 F8 ⊢
                cases fo with
                | true =>
                  have HFN := Lib.hid (show fn = true by rw [HTK.out]; rfl)
                  clear HTK
                  go_wp2_with fail
                  go_roundg (os7.length - (j + 1))
                  case measure => have := HJL.out; omega
                  case rel => exact ⟨j + 1, rfl, rfl, HJL.out, by rw [← HFE.out, HFN.out], F8.out⟩
                | false =>
                  by_cases b1 : o.Kind = 1
                  · have b1' : (o.Kind == 1) = true := by simp [b1]
                    by_cases b2 : o.At = y.At
                    · have b2' : decide (o.At = y.At) = true := by simp [b2]
                      by_cases b3 : o.Node = y.Node
                      · have b3' : decide (o.Node = y.Node) = true := by simp [b3]
                        by_cases b4 : o.Parent = y.Parent
                        · have b4' : decide (o.Parent = y.Parent) = true := by simp [b4]
                          by_cases b5 : o.Name = y.Name
                          · have b5' : decide (o.Name = y.Name) = true := by simp [b5]
                            have HFN := Lib.hid (show fn = true by rw [HTK.out]; simp [mtR, b1, b2, b3, b4, b5])
                            clear b1 b2 b3 b4 b5
                            clear HTK
                            go_wp2_with fail
                            go_roundg (os7.length - (j + 1))
                            case measure => have := HJL.out; omega
                            case rel => exact ⟨j + 1, rfl, rfl, HJL.out, by rw [← HFE.out, HFN.out], F8.out⟩
                          · have b5' : decide (o.Name = y.Name) = false := by simp [b5]
                            have HFN := Lib.hid (show fn = false by rw [HTK.out]; simp [mtR, b5])
                            clear b1 b2 b3 b4 b5
                            clear HTK
                            go_wp2_with fail
                            go_roundg (os7.length - (j + 1))
                            case measure => have := HJL.out; omega
                            case rel => exact ⟨j + 1, rfl, rfl, HJL.out, by rw [← HFE.out, HFN.out], F8.out⟩
                        · have b4' : decide (o.Parent = y.Parent) = false := by simp [b4]
                          have HFN := Lib.hid (show fn = false by rw [HTK.out]; simp [mtR, b4])
                          clear b1 b2 b3 b4
                          clear HTK
                          go_wp2_with fail
                          go_roundg (os7.length - (j + 1))
                          case measure => have := HJL.out; omega
                          case rel => exact ⟨j + 1, rfl, rfl, HJL.out, by rw [← HFE.out, HFN.out], F8.out⟩
                      · have b3' : decide (o.Node = y.Node) = false := by simp [b3]
                        have HFN := Lib.hid (show fn = false by rw [HTK.out]; simp [mtR, b3])
                        clear b1 b2 b3
                        clear HTK
                        go_wp2_with fail
                        go_roundg (os7.length - (j + 1))
                        case measure => have := HJL.out; omega
                        case rel => exact ⟨j + 1, rfl, rfl, HJL.out, by rw [← HFE.out, HFN.out], F8.out⟩
                    · have b2' : decide (o.At = y.At) = false := by simp [b2]
                      have HFN := Lib.hid (show fn = false by rw [HTK.out]; simp [mtR, b2])
                      clear b1 b2
                      clear HTK
                      go_wp2_with fail
                      go_roundg (os7.length - (j + 1))
                      case measure => have := HJL.out; omega
                      case rel => exact ⟨j + 1, rfl, rfl, HJL.out, by rw [← HFE.out, HFN.out], F8.out⟩
                  · have b1' : (o.Kind == 1) = false := by simp [b1]
                    have HFN := Lib.hid (show fn = false by rw [HTK.out]; simp [mtR, b1])
                    clear b1
                    clear HTK
                    go_wp2_with fail
                    go_roundg (os7.length - (j + 1))
                    case measure => have := HJL.out; omega
                    case rel => exact ⟨j + 1, rfl, rfl, HJL.out, by rw [← HFE.out, HFN.out], F8.out⟩
              · have jj1 : ¬ (j : Int) < (os7.length : Int) := by omega
                have hfin : (L.take j).any (fun o => mtR o y) = true := by
                  rw [List.take_of_length_le (by rw [← L7.out]; omega)]
                  exact HFROM.out y HYM.out
                rw [hfin]
                obtain ⟨m1, m2, m3, m4, m5'⟩ := NN.out
                replace m5' := cell_fr0 m5' fj
                have RH := Lib.hid (RIN13.out.fr fj)
                have F16 := Lib.hid (F15.out.step0 fj)
                clear hj hjl hfin m1 m2 m3 m4 NN S7 X7 L7 F15 fj RIN13
                obtain ⟨WC, rfl⟩ : ∃ x, x = wr := ⟨_, rfl⟩
                have hrl := RH.out.len
                have hrs := RH.out.sl
                have HHY := Lib.hid (HHDS.out y HYM.out)
                have HHB := Lib.hid (show y.Heads.length ≤ 1000000 from HHL.out y HYM.out)
                obtain ⟨hs0, hhs⟩ : ∃ l, l = y.Heads := ⟨_, rfl⟩
                rw [← hhs] at hrl hrs HHY HHB
                rw [← hrl] at m5'
                generalize r.A = rA at m5' hrs
                have HS9 := Lib.hid hrs
                clear hhs hrl hrs RH
                go_upto_region 25 with fail
                go_wp2_with fail
                go_loopg [124] hs0.length (fun gk jv wr => ∃ j : Nat, jv = .int .i64 (j : Int) ∧ gk = hs0.length - j ∧ j ≤ hs0.length ∧ Fr noB WC wr)
                case atStart => exact ⟨0, rfl, rfl, by omega, Fr.refl _ _⟩
                case round =>
                  obtain ⟨j, rfl, rfl, hj, fj⟩ := hrel
                  by_cases hjl : j < hs0.length
                  · have jj0 : (0 : Int) ≤ (j : Int) := by omega
                    have jj1 : (j : Int) < (hs0.length : Int) := by omega
                    obtain ⟨g9, off9, rfl, hg9⟩ := HS9.out.adC (by omega)
                    have e9 : codH.rd wr g9 (off9 + j * 34) = some hs0[j] := (HS9.out.fr0 fj).rd j hjl
                    have m6 := cell_fr0 m5' fj
                    have PRV := Lib.hid (fun (q : Nat) (hq : q < hs0.length) (hji : q < j) => show codS.rd wr g9 (off9 + q * 34) = some (hs0[q]).At ∧ cmpS (hs0[q]).At (hs0[j]).At = -1 from
                      ⟨hdS ((HS9.out.fr0 fj).rd q hq), cmpS_neg ((List.pairwise_iff_getElem.1 HHY.out) q j hq hjl hji)⟩)
                    have HJL := Lib.hid hjl
                    have hj9 : j ≤ 1000000 := by have := HHB.out; omega
                    generalize hs0[j] = hh at e9 PRV
                    clear hj hjl
                    go_upto_region 28 with fail
                    have f9 : Fr noB wr (wr.alloc (codH.o hh)) := (Fr.refl noB wr).alloc _
                    have p9 := hdS (Cod.rd_new' (C := codH) wr hh)
                    have hD9 : wr.heap.size < (wr.alloc (codH.o hh)).heap.size := by simp
                    obtain ⟨D9, hD9e⟩ : ∃ x, x = wr.heap.size := ⟨_, rfl⟩
                    rw [← hD9e] at p9 hD9 ⊢
                    replace m6 := cell_fr0 m6 f9
                    have hDD := cell_lt m6
                    have F9 := Lib.hid (fj.step0 f9)
                    have PR9 := Lib.hid (fun (q : Nat) (hq : q < hs0.length) (hji : q < j) => And.intro (Cod.rd_fr0 (PRV.out q hq hji).1 f9) (PRV.out q hq hji).2)
                    have hg99 : g9 < (wr.alloc (codH.o hh)).heap.size := Nat.lt_of_lt_of_le hg9 (Nat.le_trans fj.size f9.size)
                    clear e9 fj f9 hD9e PRV hg9
                    generalize wr.alloc (codH.o hh) = W9 at p9 hD9 m6 hDD F9 PR9 hg99 ⊢
                    by_cases hj0 : j = 0
                    · have jj2 : ¬ (0 : Int) < (j : Int) := by omega
                      have jj9 : ¬ 0 < j := by omega
                      clear hj0 PR9
                      refine wp_region_fr (by kernel_rfl) (by kernel_rfl) ?_
                      iterate 3
                        refine wpQ_take (v := ?_) (by rfl) (fun wS hS => ?_) ?_
                        rotate_left
                        · obtain ⟨L1, L2, L3, L4, L5, L6⟩ := Fr.same hS; go_simp; try with_reducible rfl
                        try simp only [List.getElem_toArray, List.getElem_cons_zero, List.getElem_cons_succ, Act.put, List.setIfInBounds_toArray, List.set_cons_zero, List.set_cons_succ]
                      iterate 11
                        refine wpQ_off (by rfl) ?_
                        try simp only [List.getElem_toArray, List.getElem_cons_zero, List.getElem_cons_succ, Act.put, List.setIfInBounds_toArray, List.set_cons_zero, List.set_cons_succ]
                      refine wpQ_take (v := ?_) (by rfl) (fun wS hS => ?_) ?_
                      rotate_left
                      · obtain ⟨L1, L2, L3, L4, L5, L6⟩ := Fr.same hS; go_simp; try with_reducible rfl
                      try simp only [List.getElem_toArray, List.getElem_cons_zero, List.getElem_cons_succ, Act.put, List.setIfInBounds_toArray, List.set_cons_zero, List.set_cons_succ]
                      refine wpQ_nil ?_
                      intro w1 f1
                      go_wp2_with fail
                      go_roundg (hs0.length - (j + 1))
                      case measure => have := HJL.out; omega
                      case rel => exact ⟨j + 1, rfl, rfl, HJL.out, F9.out.step0 f1⟩
                    · have jj2 : (0 : Int) < (j : Int) := by omega
                      have jj9 : 0 < j := by omega
                      have mm5 : IntKind.i64.wrap ((j : Int) - 1) = ((j - 1 : Nat) : Int) := by rw [IntKind.wrap_i64]; omega
                      obtain ⟨e3, hc3⟩ := PR9.out (j - 1) (by have := HJL.out; omega) (by omega)
                      have q2 : j - 1 < hs0.length := by have := HJL.out; omega
                      generalize (hs0[j - 1]).At = pn at e3 hc3
                      generalize hqe : j - 1 = q' at mm5 e3 q2
                      have j3 : (0 : Int) ≤ (q' : Int) := by omega
                      have j4 : (q' : Int) < (hs0.length : Int) := by omega
                      have D1 : ∀ wS, Fr noB W9 wS → Calls Tryz.prog 13 #[.agg (codS.A pn), .agg (codS.A hh.At)] wS (Gives wS (.int .i64 (-1))) := fun wS f => by
                        have := scmpG_any wS pn hh.At
                        rw [hc3] at this
                        exact this
                      clear hj0 PR9 hc3 hqe q2
                      refine wp_region_fr (by kernel_rfl) (by kernel_rfl) ?_
                      iterate 12
                        refine wpQ_take (v := ?_) (by rfl) (fun wS hS => ?_) ?_
                        rotate_left
                        · obtain ⟨L1, L2, L3, L4, L5, L6⟩ := Fr.same hS; go_simp; try with_reducible rfl
                        try simp only [List.getElem_toArray, List.getElem_cons_zero, List.getElem_cons_succ, Act.put, List.setIfInBounds_toArray, List.set_cons_zero, List.set_cons_succ]
                      refine wpQ_call (by rfl) (fun wS hS => ⟨_, _, ?qh472, Calls.fr hS (D1 _ hS)⟩) ?qk472
                      case qh472 => obtain ⟨L1, L2, L3, L4, L5, L6⟩ := Fr.same hS; go_simp; try with_reducible rfl
                      try simp only [List.getElem_toArray, List.getElem_cons_zero, List.getElem_cons_succ, Act.put, List.setIfInBounds_toArray, List.set_cons_zero, List.set_cons_succ]
                      iterate 2
                        refine wpQ_take (v := ?_) (by rfl) (fun wS hS => ?_) ?_
                        rotate_left
                        · obtain ⟨L1, L2, L3, L4, L5, L6⟩ := Fr.same hS; go_simp; try with_reducible rfl
                        try simp only [List.getElem_toArray, List.getElem_cons_zero, List.getElem_cons_succ, Act.put, List.setIfInBounds_toArray, List.set_cons_zero, List.set_cons_succ]
                      refine wpQ_nil ?_
                      intro w1 f1
                      go_wp2_with fail
                      go_roundg (hs0.length - (j + 1))
                      case measure => have := HJL.out; omega
                      case rel => exact ⟨j + 1, rfl, rfl, HJL.out, F9.out.step0 f1⟩
                  · have jj1 : ¬ (j : Int) < (hs0.length : Int) := by omega
                    have F17 := Lib.hid (F16.out.step0 fj)
                    clear hj hjl fj m5'
                    go_wp2_with fail
                    go_roundg (rs4.length - (i + 1))
                    case measure => have := HLT.out; omega
                    case rel => exact ⟨i + 1, rfl, rfl, HLT.out, F17.out⟩
          · have j2 : (0 : Int) < (i : Int) := by omega
            have j9 : 0 < i := by omega
            have m5 : IntKind.i64.wrap ((i : Int) - 1) = ((i - 1 : Nat) : Int) := by rw [IntKind.wrap_i64]; omega
            obtain ⟨e3, hc3⟩ := PRV12.out (i - 1) (by have := HLT.out; omega) (by omega)
            have q2 : i - 1 < rs4.length := by have := HLT.out; omega
            generalize (ys4[i - 1]'(by rw [← HLY.out]; exact q2)).Node = pn at e3 hc3
            generalize hqe : i - 1 = q' at m5 e3 q2
            have j3 : (0 : Int) ≤ (q' : Int) := by omega
            have j4 : (q' : Int) < (rs4.length : Int) := by omega
            have D2 : ∀ wS, Fr noB W12 wS → Calls Tryz.prog 13 #[.agg (codS.A pn), .agg (codS.A y.Node)] wS (Gives wS (.int .i64 (-1))) := fun wS f => by
              have := scmpG_any wS pn y.Node
              rw [hc3] at this
              exact this
            clear hi0 PRV12 hc3 hqe q2
            refine wp_region_fr (by kernel_rfl) (by kernel_rfl) ?_
            iterate 11
              refine wpQ_take (v := ?_) (by rfl) (fun wS hS => ?_) ?_
              rotate_left
              · obtain ⟨L1, L2, L3, L4, L5, L6⟩ := Fr.same hS; go_simp; try with_reducible rfl
              try simp only [List.getElem_toArray, List.getElem_cons_zero, List.getElem_cons_succ, Act.put, List.setIfInBounds_toArray, List.set_cons_zero, List.set_cons_succ]
            refine wpQ_call (by rfl) (fun wS hS => ⟨_, _, ?qh513, Calls.fr hS (D2 _ hS)⟩) ?qk513
            case qh513 => obtain ⟨L1, L2, L3, L4, L5, L6⟩ := Fr.same hS; go_simp; try with_reducible rfl
            try simp only [List.getElem_toArray, List.getElem_cons_zero, List.getElem_cons_succ, Act.put, List.setIfInBounds_toArray, List.set_cons_zero, List.set_cons_succ]
            iterate 8
              refine wpQ_take (v := ?_) (by rfl) (fun wS hS => ?_) ?_
              rotate_left
              · obtain ⟨L1, L2, L3, L4, L5, L6⟩ := Fr.same hS; go_simp; try with_reducible rfl
              try simp only [List.getElem_toArray, List.getElem_cons_zero, List.getElem_cons_succ, Act.put, List.setIfInBounds_toArray, List.set_cons_zero, List.set_cons_succ]
            refine wpQ_call (by rfl) (fun wS hS => ⟨_, _, ?qh521, Calls.fr hS (D1 _ hS)⟩) ?qk521
            case qh521 => obtain ⟨L1, L2, L3, L4, L5, L6⟩ := Fr.same hS; go_simp; try with_reducible rfl
            try simp only [List.getElem_toArray, List.getElem_cons_zero, List.getElem_cons_succ, Act.put, List.setIfInBounds_toArray, List.set_cons_zero, List.set_cons_succ]
            refine wpQ_take (v := ?_) (by rfl) (fun wS hS => ?_) ?_
            rotate_left
            · obtain ⟨L1, L2, L3, L4, L5, L6⟩ := Fr.same hS; go_simp; try with_reducible rfl
            try simp only [List.getElem_toArray, List.getElem_cons_zero, List.getElem_cons_succ, Act.put, List.setIfInBounds_toArray, List.set_cons_zero, List.set_cons_succ]
            refine wpQ_nil ?_
            intro w1 f1
            clear m5 e3 j3 j4
            obtain ⟨WA, rfl⟩ : ∃ x, x = w1 := ⟨_, rfl⟩
            have F13 := Lib.hid (F12.step0 f1)
            have g4lt := Nat.lt_of_lt_of_le hg4' f1.size
            have Dlt := Nat.lt_of_lt_of_le hD f1.size
            have nn1 := Cod.rd_fr0 d1 f1
            have nn2 := Cod.rd_fr0 d2 f1
            have nn3 := Cod.rd_fr0 d3 f1
            have nn4 := cell_fr0 d4 f1
            have nn5 := cell_fr0 d5 f1
            have RIN13 := Lib.hid (RIN.out.fr f1)
            clear f1 D1 D2
            go_upto_region 15 with fail
            obtain ⟨z, hz1, hz2⟩ : ∃ z, liesR ys4 y.Node zSt = z ∧ liesR ys4 y.Node ⟨0, 1⟩ = !z := ⟨_, rfl, by
              rw [liesR_perm HP4.out HND.out y.Node ⟨0, 1⟩, liesR_perm HP4.out HND.out y.Node zSt]
              exact HONE.out y HYM.out⟩
            have D3 : ∀ wS, Fr noB WA wS → Calls Tryz.prog 14 #[.slice (some ⟨g4, off4, none⟩) rs4.length c4, .agg (codS.A y.Node), .agg (codS.A zSt)] wS (Gives wS (.bool z)) := fun wS f => by
              have := DL.out wS (F13.out.step0 f) y.Node zSt
              rw [hz1] at this
              exact this
            have D4 : ∀ wS, Fr noB WA wS → Calls Tryz.prog 14 #[.slice (some ⟨g4, off4, none⟩) rs4.length c4, .agg (codS.A y.Node), .agg (codS.A ⟨0, 1⟩)] wS (Gives wS (.bool !z)) := fun wS f => by
              have := DL.out wS (F13.out.step0 f) y.Node ⟨0, 1⟩
              rw [hz2] at this
              exact this
            clear hz1 hz2
            refine wp_region_fr (by kernel_rfl) (by kernel_rfl) ?_
            iterate 4
              refine wpQ_take (v := ?_) (by rfl) (fun wS hS => ?_) ?_
              rotate_left
              · obtain ⟨L1, L2, L3, L4, L5, L6⟩ := Fr.same hS; go_simp; try with_reducible rfl
              try simp only [List.getElem_toArray, List.getElem_cons_zero, List.getElem_cons_succ, Act.put, List.setIfInBounds_toArray, List.set_cons_zero, List.set_cons_succ]
            refine wpQ_call (by rfl) (fun wS hS => ⟨_, _, ?qh561, Calls.fr hS (D3 _ hS)⟩) ?qk561
            case qh561 => obtain ⟨L1, L2, L3, L4, L5, L6⟩ := Fr.same hS; go_simp; try with_reducible rfl
            try simp only [List.getElem_toArray, List.getElem_cons_zero, List.getElem_cons_succ, Act.put, List.setIfInBounds_toArray, List.set_cons_zero, List.set_cons_succ]
            iterate 4
              refine wpQ_take (v := ?_) (by rfl) (fun wS hS => ?_) ?_
              rotate_left
              · obtain ⟨L1, L2, L3, L4, L5, L6⟩ := Fr.same hS; go_simp; try with_reducible rfl
              try simp only [List.getElem_toArray, List.getElem_cons_zero, List.getElem_cons_succ, Act.put, List.setIfInBounds_toArray, List.set_cons_zero, List.set_cons_succ]
            refine wpQ_call (by rfl) (fun wS hS => ⟨_, _, ?qh569, Calls.fr hS (D4 _ hS)⟩) ?qk569
            case qh569 => obtain ⟨L1, L2, L3, L4, L5, L6⟩ := Fr.same hS; go_simp; try with_reducible rfl
            try simp only [List.getElem_toArray, List.getElem_cons_zero, List.getElem_cons_succ, Act.put, List.setIfInBounds_toArray, List.set_cons_zero, List.set_cons_succ]
            refine wpQ_take (v := ?_) (by rfl) (fun wS hS => ?_) ?_
            rotate_left
            · obtain ⟨L1, L2, L3, L4, L5, L6⟩ := Fr.same hS; go_simp; try with_reducible rfl
            try simp only [List.getElem_toArray, List.getElem_cons_zero, List.getElem_cons_succ, Act.put, List.setIfInBounds_toArray, List.set_cons_zero, List.set_cons_succ]
            refine wpQ_nil ?_
            intro w1 f1
            have hzz : (z == !z) = false := by cases z <;> rfl
            have F14 := F13.out.step0 f1
            replace nn1 := Cod.rd_fr0 nn1 f1
            replace nn2 := Cod.rd_fr0 nn2 f1
            replace nn3 := Cod.rd_fr0 nn3 f1
            replace nn4 := cell_fr0 nn4 f1
            replace nn5 := cell_fr0 nn5 f1
            replace RIN13 := Lib.hid (RIN13.out.fr f1)
            have HG14 := Lib.hid (HG4.out.fr0 F14)
            clear f1 F13 D3 D4 g4lt Dlt
            obtain ⟨WB, rfl⟩ : ∃ x, x = w1 := ⟨_, rfl⟩
            go_upto_region 18 with fail
            go_wp2_with (go_at_call 15; refine (gvOps_any HG14.out HSR.out (by have := HL40.out; omega) HOV.out).mono ?_; rintro e w7 ⟨A7, c7, os7, rfl, s7, x7, _, f7⟩)
            have F15 := Lib.hid (F14.step0 f7)
            replace nn1 := Cod.rd_fr0 nn1 f7
            replace nn2 := Cod.rd_fr0 nn2 f7
            replace nn3 := Cod.rd_fr0 nn3 f7
            replace nn4 := cell_fr0 nn4 f7
            replace nn5 := cell_fr0 nn5 f7
            replace RIN13 := Lib.hid (RIN13.out.fr f7)
            have NN := Lib.hid (And.intro nn1 (And.intro nn2 (And.intro nn3 (And.intro nn4 nn5))))
            have S7 := Lib.hid s7
            have X7 := Lib.hid x7
            have L7 := Lib.hid (show os7.length = L.length from x7.1)
            clear f7 HG14 F14 nn1 nn2 nn3 nn4 nn5 s7 x7
            go_loopg [80, 9] os7.length (fun gk jv fv wr => ∃ j : Nat, jv = .int .i64 (j : Int) ∧ gk = os7.length - j ∧ j ≤ os7.length ∧ fv = .bool ((L.take j).any (fun o => mtR o y)) ∧ Fr noB w7 wr)
            case atStart => exact ⟨0, rfl, rfl, by omega, rfl, Fr.refl _ _⟩
            case round =>
              obtain ⟨j, rfl, rfl, hj, rfl, fj⟩ := hrel
              by_cases hjl : j < os7.length
              · have jj0 : (0 : Int) ≤ (j : Int) := by omega
                have jj1 : (j : Int) < (os7.length : Int) := by omega
                have hjL : j < L.length := by rw [← L7.out]; exact hjl
                obtain ⟨g7, off7, rfl, hg7⟩ := S7.out.adC (by omega)
                have e7 : codO.rd wr g7 (off7 + j * 41) = some os7[j] := (S7.out.fr0 fj).rd j hjl
                have oin := (X7.out.2 j hjl hjL).op.inn.eq
                have HTK := Lib.hid (any_take (p := fun o => mtR o y) hjL)
                have HJL := Lib.hid hjl
                have hj9 : j ≤ 100 := by have := L7.out; have := HL40.out; omega
                generalize os7[j] = ro at e7 oin
                generalize L[j] = o at oin HTK
                obtain ⟨fn, hfn⟩ : ∃ fn, fn = (L.take (j + 1)).any (fun o => mtR o y) := ⟨_, rfl⟩
                have HFE := Lib.hid hfn
                rw [← hfn] at HTK
                clear hfn
                generalize (L.take j).any (fun o => mtR o y) = fo at HTK ⊢
                have OI := Lib.hid (show o.Kind = ro.Kind ∧ o.At = ro.At ∧ o.Node = ro.Node ∧ o.Parent = ro.Parent ∧ o.Name = ro.Name by rw [oin]; exact ⟨rfl, rfl, rfl, rfl, rfl⟩)
                clear oin hj hjl hjL hg7
                go_upto_region 21 with fail
                have f8 : Fr noB wr (wr.alloc (codO.o ro)) := (Fr.refl noB wr).alloc _
                obtain ⟨p1, _, _, p4, p5, p6, p7, _, _, _⟩ := opAt (Cod.rd_new' (C := codO) wr ro)
                obtain ⟨m1, m2, m3, m4, m5'⟩ := NN.out
                replace m1 := Cod.rd_fr0 (Cod.rd_fr0 m1 fj) f8
                replace m2 := Cod.rd_fr0 (Cod.rd_fr0 m2 fj) f8
                replace m3 := Cod.rd_fr0 (Cod.rd_fr0 m3 fj) f8
                replace m4 := cell_fr0 (cell_fr0 m4 fj) f8
                rw [← OI.out.1] at p1
                rw [← OI.out.2.1] at p4
                rw [← OI.out.2.2.1] at p5
                rw [← OI.out.2.2.2.1] at p6
                rw [← OI.out.2.2.2.2] at p7
                obtain ⟨D8, hD8⟩ : ∃ x, x = wr.heap.size := ⟨_, rfl⟩
                rw [← hD8] at p1 p4 p5 p6 p7 ⊢
                have F8 := Lib.hid (fj.step0 f8)
                clear e7 fj f8 hD8 m5'
                generalize wr.alloc (codO.o ro) = W8 at p1 p4 p5 p6 p7 m1 m2 m3 m4 F8 ⊢
                cases fo with
                | true =>
                  have HFN := Lib.hid (show fn = true by rw [HTK.out]; rfl)
                  clear HTK
                  go_wp2_with fail
                  go_roundg (os7.length - (j + 1))
                  case measure => have := HJL.out; omega
                  case rel => exact ⟨j + 1, rfl, rfl, HJL.out, by rw [← HFE.out, HFN.out], F8.out⟩
                | false =>
                  by_cases b1 : o.Kind = 1
                  · have b1' : (o.Kind == 1) = true := by simp [b1]
                    by_cases b2 : o.At = y.At
                    · have b2' : decide (o.At = y.At) = true := by simp [b2]
                      by_cases b3 : o.Node = y.Node
                      · have b3' : decide (o.Node = y.Node) = true := by simp [b3]
                        by_cases b4 : o.Parent = y.Parent
                        · have b4' : decide (o.Parent = y.Parent) = true := by simp [b4]
                          by_cases b5 : o.Name = y.Name
                          · have b5' : decide (o.Name = y.Name) = true := by simp [b5]
                            have HFN := Lib.hid (show fn = true by rw [HTK.out]; simp [mtR, b1, b2, b3, b4, b5])
                            clear b1 b2 b3 b4 b5
                            clear HTK
                            go_wp2_with fail
                            go_roundg (os7.length - (j + 1))
                            case measure => have := HJL.out; omega
                            case rel => exact ⟨j + 1, rfl, rfl, HJL.out, by rw [← HFE.out, HFN.out], F8.out⟩
                          · have b5' : decide (o.Name = y.Name) = false := by simp [b5]
                            have HFN := Lib.hid (show fn = false by rw [HTK.out]; simp [mtR, b5])
                            clear b1 b2 b3 b4 b5
                            clear HTK
                            go_wp2_with fail
                            go_roundg (os7.length - (j + 1))
                            case measure => have := HJL.out; omega
                            case rel => exact ⟨j + 1, rfl, rfl, HJL.out, by rw [← HFE.out, HFN.out], F8.out⟩
                        · have b4' : decide (o.Parent = y.Parent) = false := by simp [b4]
                          have HFN := Lib.hid (show fn = false by rw [HTK.out]; simp [mtR, b4])
                          clear b1 b2 b3 b4
                          clear HTK
                          go_wp2_with fail
                          go_roundg (os7.length - (j + 1))
                          case measure => have := HJL.out; omega
                          case rel => exact ⟨j + 1, rfl, rfl, HJL.out, by rw [← HFE.out, HFN.out], F8.out⟩
                      · have b3' : decide (o.Node = y.Node) = false := by simp [b3]
                        have HFN := Lib.hid (show fn = false by rw [HTK.out]; simp [mtR, b3])
                        clear b1 b2 b3
                        clear HTK
                        go_wp2_with fail
                        go_roundg (os7.length - (j + 1))
                        case measure => have := HJL.out; omega
                        case rel => exact ⟨j + 1, rfl, rfl, HJL.out, by rw [← HFE.out, HFN.out], F8.out⟩
                    · have b2' : decide (o.At = y.At) = false := by simp [b2]
                      have HFN := Lib.hid (show fn = false by rw [HTK.out]; simp [mtR, b2])
                      clear b1 b2
                      clear HTK
                      go_wp2_with fail
                      go_roundg (os7.length - (j + 1))
                      case measure => have := HJL.out; omega
                      case rel => exact ⟨j + 1, rfl, rfl, HJL.out, by rw [← HFE.out, HFN.out], F8.out⟩
                  · have b1' : (o.Kind == 1) = false := by simp [b1]
                    have HFN := Lib.hid (show fn = false by rw [HTK.out]; simp [mtR, b1])
                    clear b1
                    clear HTK
                    go_wp2_with fail
                    go_roundg (os7.length - (j + 1))
                    case measure => have := HJL.out; omega
                    case rel => exact ⟨j + 1, rfl, rfl, HJL.out, by rw [← HFE.out, HFN.out], F8.out⟩
              · have jj1 : ¬ (j : Int) < (os7.length : Int) := by omega
                have hfin : (L.take j).any (fun o => mtR o y) = true := by
                  rw [List.take_of_length_le (by rw [← L7.out]; omega)]
                  exact HFROM.out y HYM.out
                rw [hfin]
                obtain ⟨m1, m2, m3, m4, m5'⟩ := NN.out
                replace m5' := cell_fr0 m5' fj
                have RH := Lib.hid (RIN13.out.fr fj)
                have F16 := Lib.hid (F15.out.step0 fj)
                clear hj hjl hfin m1 m2 m3 m4 NN S7 X7 L7 F15 fj RIN13
                obtain ⟨WC, rfl⟩ : ∃ x, x = wr := ⟨_, rfl⟩
                have hrl := RH.out.len
                have hrs := RH.out.sl
                have HHY := Lib.hid (HHDS.out y HYM.out)
                have HHB := Lib.hid (show y.Heads.length ≤ 1000000 from HHL.out y HYM.out)
                obtain ⟨hs0, hhs⟩ : ∃ l, l = y.Heads := ⟨_, rfl⟩
                rw [← hhs] at hrl hrs HHY HHB
                rw [← hrl] at m5'
                generalize r.A = rA at m5' hrs
                have HS9 := Lib.hid hrs
                clear hhs hrl hrs RH
                go_upto_region 25 with fail
                go_wp2_with fail
                go_loopg [124] hs0.length (fun gk jv wr => ∃ j : Nat, jv = .int .i64 (j : Int) ∧ gk = hs0.length - j ∧ j ≤ hs0.length ∧ Fr noB WC wr)
                case atStart => exact ⟨0, rfl, rfl, by omega, Fr.refl _ _⟩
                case round =>
                  obtain ⟨j, rfl, rfl, hj, fj⟩ := hrel
                  by_cases hjl : j < hs0.length
                  · have jj0 : (0 : Int) ≤ (j : Int) := by omega
                    have jj1 : (j : Int) < (hs0.length : Int) := by omega
                    obtain ⟨g9, off9, rfl, hg9⟩ := HS9.out.adC (by omega)
                    have e9 : codH.rd wr g9 (off9 + j * 34) = some hs0[j] := (HS9.out.fr0 fj).rd j hjl
                    have m6 := cell_fr0 m5' fj
                    have PRV := Lib.hid (fun (q : Nat) (hq : q < hs0.length) (hji : q < j) => show codS.rd wr g9 (off9 + q * 34) = some (hs0[q]).At ∧ cmpS (hs0[q]).At (hs0[j]).At = -1 from
                      ⟨hdS ((HS9.out.fr0 fj).rd q hq), cmpS_neg ((List.pairwise_iff_getElem.1 HHY.out) q j hq hjl hji)⟩)
                    have HJL := Lib.hid hjl
                    have hj9 : j ≤ 1000000 := by have := HHB.out; omega
                    generalize hs0[j] = hh at e9 PRV
                    clear hj hjl
                    go_upto_region 28 with fail
                    have f9 : Fr noB wr (wr.alloc (codH.o hh)) := (Fr.refl noB wr).alloc _
                    have p9 := hdS (Cod.rd_new' (C := codH) wr hh)
                    have hD9 : wr.heap.size < (wr.alloc (codH.o hh)).heap.size := by simp
                    obtain ⟨D9, hD9e⟩ : ∃ x, x = wr.heap.size := ⟨_, rfl⟩
                    rw [← hD9e] at p9 hD9 ⊢
                    replace m6 := cell_fr0 m6 f9
                    have hDD := cell_lt m6
                    have F9 := Lib.hid (fj.step0 f9)
                    have PR9 := Lib.hid (fun (q : Nat) (hq : q < hs0.length) (hji : q < j) => And.intro (Cod.rd_fr0 (PRV.out q hq hji).1 f9) (PRV.out q hq hji).2)
                    have hg99 : g9 < (wr.alloc (codH.o hh)).heap.size := Nat.lt_of_lt_of_le hg9 (Nat.le_trans fj.size f9.size)
                    clear e9 fj f9 hD9e PRV hg9
                    generalize wr.alloc (codH.o hh) = W9 at p9 hD9 m6 hDD F9 PR9 hg99 ⊢
                    by_cases hj0 : j = 0
                    · have jj2 : ¬ (0 : Int) < (j : Int) := by omega
                      have jj9 : ¬ 0 < j := by omega
                      clear hj0 PR9
                      refine wp_region_fr (by kernel_rfl) (by kernel_rfl) ?_
                      iterate 3
                        refine wpQ_take (v := ?_) (by rfl) (fun wS hS => ?_) ?_
                        rotate_left
                        · obtain ⟨L1, L2, L3, L4, L5, L6⟩ := Fr.same hS; go_simp; try with_reducible rfl
                        try simp only [List.getElem_toArray, List.getElem_cons_zero, List.getElem_cons_succ, Act.put, List.setIfInBounds_toArray, List.set_cons_zero, List.set_cons_succ]
                      iterate 11
                        refine wpQ_off (by rfl) ?_
                        try simp only [List.getElem_toArray, List.getElem_cons_zero, List.getElem_cons_succ, Act.put, List.setIfInBounds_toArray, List.set_cons_zero, List.set_cons_succ]
                      refine wpQ_take (v := ?_) (by rfl) (fun wS hS => ?_) ?_
                      rotate_left
                      · obtain ⟨L1, L2, L3, L4, L5, L6⟩ := Fr.same hS; go_simp; try with_reducible rfl
                      try simp only [List.getElem_toArray, List.getElem_cons_zero, List.getElem_cons_succ, Act.put, List.setIfInBounds_toArray, List.set_cons_zero, List.set_cons_succ]
                      refine wpQ_nil ?_
                      intro w1 f1
                      go_wp2_with fail
                      go_roundg (hs0.length - (j + 1))
                      case measure => have := HJL.out; omega
                      case rel => exact ⟨j + 1, rfl, rfl, HJL.out, F9.out.step0 f1⟩
                    · have jj2 : (0 : Int) < (j : Int) := by omega
                      have jj9 : 0 < j := by omega
                      have mm5 : IntKind.i64.wrap ((j : Int) - 1) = ((j - 1 : Nat) : Int) := by rw [IntKind.wrap_i64]; omega
                      obtain ⟨e3, hc3⟩ := PR9.out (j - 1) (by have := HJL.out; omega) (by omega)
                      have q2 : j - 1 < hs0.length := by have := HJL.out; omega
                      generalize (hs0[j - 1]).At = pn at e3 hc3
                      generalize hqe : j - 1 = q' at mm5 e3 q2
                      have j3 : (0 : Int) ≤ (q' : Int) := by omega
                      have j4 : (q' : Int) < (hs0.length : Int) := by omega
                      have D1 : ∀ wS, Fr noB W9 wS → Calls Tryz.prog 13 #[.agg (codS.A pn), .agg (codS.A hh.At)] wS (Gives wS (.int .i64 (-1))) := fun wS f => by
                        have := scmpG_any wS pn hh.At
                        rw [hc3] at this
                        exact this
                      clear hj0 PR9 hc3 hqe q2
                      refine wp_region_fr (by kernel_rfl) (by kernel_rfl) ?_
                      iterate 12
                        refine wpQ_take (v := ?_) (by rfl) (fun wS hS => ?_) ?_
                        rotate_left
                        · obtain ⟨L1, L2, L3, L4, L5, L6⟩ := Fr.same hS; go_simp; try with_reducible rfl
                        try simp only [List.getElem_toArray, List.getElem_cons_zero, List.getElem_cons_succ, Act.put, List.setIfInBounds_toArray, List.set_cons_zero, List.set_cons_succ]
                      refine wpQ_call (by rfl) (fun wS hS => ⟨_, _, ?qh805, Calls.fr hS (D1 _ hS)⟩) ?qk805
                      case qh805 => obtain ⟨L1, L2, L3, L4, L5, L6⟩ := Fr.same hS; go_simp; try with_reducible rfl
                      try simp only [List.getElem_toArray, List.getElem_cons_zero, List.getElem_cons_succ, Act.put, List.setIfInBounds_toArray, List.set_cons_zero, List.set_cons_succ]
                      iterate 2
                        refine wpQ_take (v := ?_) (by rfl) (fun wS hS => ?_) ?_
                        rotate_left
                        · obtain ⟨L1, L2, L3, L4, L5, L6⟩ := Fr.same hS; go_simp; try with_reducible rfl
                        try simp only [List.getElem_toArray, List.getElem_cons_zero, List.getElem_cons_succ, Act.put, List.setIfInBounds_toArray, List.set_cons_zero, List.set_cons_succ]
                      refine wpQ_nil ?_
                      intro w1 f1
                      go_wp2_with fail
                      go_roundg (hs0.length - (j + 1))
                      case measure => have := HJL.out; omega
                      case rel => exact ⟨j + 1, rfl, rfl, HJL.out, F9.out.step0 f1⟩
                  · have jj1 : ¬ (j : Int) < (hs0.length : Int) := by omega
                    have F17 := Lib.hid (F16.out.step0 fj)
                    clear hj hjl fj m5'
                    go_wp2_with fail
                    go_roundg (rs4.length - (i + 1))
                    case measure => have := HLT.out; omega
                    case rel => exact ⟨i + 1, rfl, rfl, HLT.out, F17.out⟩
        · have j1 : ¬ (i : Int) < (rs4.length : Int) := by omega
          have HG20 := Lib.hid (HG4.out.fr0 fq)
          have F20 := Lib.hid (F4.out.step0 fq)
          clear hi hlt
          obtain ⟨WD, rfl⟩ : ∃ x, x = wr := ⟨_, rfl⟩
          have kk1 : True := trivial
          go_upto_region 33 with (first
            | (go_at_call 16; have _t := kk1; refine (gvKids_any HG20.out (by have := HL40.out; omega) zSt).mono ?_; rintro e w21 ⟨A21, c21, ks21, rfl, _, y21, _, f21⟩; have l21 := Lib.hid y21.length_eq; have HG21 := Lib.hid (HG20.out.fr0 f21); clear kk1 _t y21)
            | (go_at_call 16; refine (gvKids_any HG21.out (by have := HL40.out; omega) ⟨0, 1⟩).mono ?_; rintro e w22 ⟨A22, c22, ks22, rfl, _, y22, _, f22⟩; have l22 := Lib.hid y22.length_eq; have HG22 := Lib.hid (HG21.out.fr0 f22); clear y22))
          have F22 := Lib.hid ((fq.step0 f21).step0 f22)
          have HCN := Lib.hid (HCNT.out ys4 HP4.out)
          have hxl := HXL.out
          have hk1 := kidsR_le zSt (runX [] L)
          have hk2 := kidsR_le ⟨0, 1⟩ (runX [] L)
          have e21 : ks21.length = (kidsR zSt (runX [] L)).length := l21.out
          have e22 : ks22.length = (kidsR ⟨0, 1⟩ (runX [] L)).length := l22.out
          rw [e21, e22]
          obtain ⟨cnt, hcnt⟩ : ∃ cnt : RwP → Nat, cnt = fun y => (kidsR y.Node (runX [] L)).length := ⟨_, rfl⟩
          have hcn := HCN.out
          rw [← hcnt] at hcn
          have HCT := Lib.hid hcnt
          clear hcnt HCN
          generalize hab : (kidsR zSt (runX [] L)).length = ka at hk1 hcn ⊢
          generalize hac : (kidsR ⟨0, 1⟩ (runX [] L)).length = kb at hk2 hcn ⊢
          have hcn' : ka + kb + (ys4.map cnt).sum = ys4.length := hcn
          have HCN := Lib.hid hcn'
          have hly4 : ys4.length ≤ 40 := by rw [← HLY.out]; exact HL4.out
          have hw0 : wrap64 ((ka : Int) + (kb : Int)) = ((ka + kb + ((ys4.take 0).map cnt).sum : Nat) : Int) := by
            rw [IntWalk.wrap64_in _ (by omega)]
            simp
          rw [hw0]
          have HS0 := Lib.hid (fun j => sum_take ys4 cnt j)
          clear hab hac hcn hcn' hw0 hk1 hk2 e21 e22 l21 l22 hxl HCNT F20 HG20 HG21
          go_wp2_with fail
          go_loopg [157, 14] rs4.length (fun gk jv kv wr => ∃ j : Nat, jv = .int .i64 (j : Int) ∧ gk = rs4.length - j ∧ j ≤ rs4.length ∧ kv = .int .i64 ((ka + kb + ((ys4.take j).map cnt).sum : Nat) : Int) ∧ Fr noB w22 wr)
          case atStart => exact ⟨0, rfl, rfl, by omega, rfl, Fr.refl _ _⟩
          case round =>
            obtain ⟨j, rfl, rfl, hj, rfl, fj⟩ := hrel
            have hsj := (HS0.out j).1
            have hcn := HCN.out
            by_cases hjl : j < rs4.length
            · have jj0 : (0 : Int) ≤ (j : Int) := by omega
              have jj1 : (j : Int) < (rs4.length : Int) := by omega
              have hjy : j < ys4.length := by rw [← HLY.out]; exact hjl
              have hsn := (HS0.out j).2 hjy
              have hsj2 := (HS0.out (j + 1)).1
              obtain ⟨g4, off4, rfl, hg4⟩ := HS4.out.adC (by omega)
              have e2 : codR.rd wr g4 (off4 + j * 8) = some rs4[j] := (HS4.out.fr0 (F22.out.step0 fj)).rd j hjl
              have rin := (HR4.out.at_ j hjl hjy).node
              have hcj : cnt ys4[j] = (kidsR ys4[j].Node (runX [] L)).length := by rw [HCT.out]
              generalize rs4[j] = r at e2 rin
              generalize ys4[j] = y at rin hcj hsn
              have HJL := Lib.hid hjl
              have HG23 := Lib.hid (HG22.out.fr0 fj)
              have HSN := Lib.hid hsn
              generalize hse : ((ys4.take j).map cnt).sum = sj at hsj HSN hsn ⊢
              have hj9 : j ≤ 100 := by omega
              have HB9 := Lib.hid (show ka + kb + sj + cnt y ≤ 40 by omega)
              have hka : ka + kb + sj ≤ 40 := by omega
              clear hj hjl hjy hsj hsj2 hcn hse hsn
              go_upto_region 36 with fail
              have f12 : Fr noB wr (wr.alloc (codR.o r)) := (Fr.refl noB wr).alloc _
              have q12 := (rwAt (Cod.rd_new' (C := codR) wr r)).node
              rw [← rin] at q12
              obtain ⟨D, hDe⟩ : ∃ x, x = wr.heap.size := ⟨_, rfl⟩
              rw [← hDe] at q12 ⊢
              have HG24 := Lib.hid (HG23.out.fr0 f12)
              have F24 := Lib.hid (fj.step0 f12)
              clear hDe e2 rin fj f12
              generalize wr.alloc (codR.o r) = W12 at q12 HG24 F24 ⊢
              have HCJ := Lib.hid hcj
              clear hcj
              go_wp2_with (go_at_call 16; refine (gvKids_any HG24.out (by have := HL40.out; omega) y.Node).mono ?_; rintro e w25 ⟨A25, c25, ks25, rfl, _, y25, _, f25⟩; have l25 : ks25.length = cnt y := by { rw [HCJ.out]; exact y25.length_eq }; rw [l25]; clear l25 y25)
              go_roundg (rs4.length - (j + 1))
              case measure => have := HJL.out; omega
              case rel => exact ⟨j + 1, rfl, rfl, HJL.out, congrArg (Value.int .i64) (by
                rw [IntWalk.wrap64_in _ (by have := HB9.out; omega), HSN.out]
                push_cast
                omega), F24.out.step0 f25⟩
            · have jj1 : ¬ (j : Int) < (rs4.length : Int) := by omega
              have hfin : ka + kb + ((ys4.take j).map cnt).sum = rs4.length := by
                rw [List.take_of_length_le (by rw [← HLY.out]; omega), hcn, HLY.out]
              rw [hfin]
              have F26 := Lib.hid ((F4.out.step0 F22.out).step0 fj)
              clear hj hjl hsj hcn hfin fj
              go_wp2_with fail
              go_ret
              exact ⟨by simp, F26.out⟩
end Go.Proofs.YtdandpaeeodolaaGreat
