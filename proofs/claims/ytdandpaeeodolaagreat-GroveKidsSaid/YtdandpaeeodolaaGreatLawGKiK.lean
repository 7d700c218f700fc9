/- The walk of GroveKids. (ex_ldS_at, ex_ldR_at, ex_ldO_at, rdI) -/
import Derived.Test.YtdandpaeeodolaaGreatGlFK
import Derived.Test.YtdandpaeeodolaaGreatGlPK
import Derived.Laws.Cover1
namespace Go.Proofs.YtdandpaeeodolaaGreat
open Go.RowKit Go.Sort
set_option linter.unusedVariables false
set_option linter.unusedSimpArgs false
attribute [local go_sem] Oper.semAt_some

@[irreducible] noncomputable def bsS2 (w : World) (v u : Value) : Result Next := ((Instr.buildSlice 31 2 #[(0, v), (1, u)]).run Tryz.prog w).andThen (fun v w => .ok (.value v) w)
@[simp ↓] theorem ex_bsS2 (ρ : Operand → Value) (a b : Operand) (d : Option Nat) (t : TypeId) (p : String) (f : Array Edge) (g : Option (Nat × Bool)) (w : World) :
    (execOp ρ { dst := d, op := .buildSlice 31 2 #[(0, a), (1, b)], type := t, pos := p, after := f, guard := g }).run Tryz.prog w = bsS2 w (ρ a) (ρ b) := by
  unfold execOp bsS2
  simp only [List.map_toArray, List.map_cons, List.map_nil, Sem.run_bind, Sem.run_pure]
theorem bs_S2 (w : World) : (Instr.buildSlice 31 2 #[(0, .agg (codS.A zSt)), (1, .agg (codS.A ⟨0, 1⟩))]).run Tryz.prog w = .ok (.slice (some ⟨w.heap.size, 0, none⟩) 2 2) (w.alloc (codS.ro [zSt, ⟨0, 1⟩])) := by
  rw [Cod.A_eq, Cod.A_eq]
  kernel_rfl
@[simp] theorem bsS2_at (w : World) : bsS2 w (.agg (codS.A zSt)) (.agg (codS.A ⟨0, 1⟩)) = .ok (.value (.slice (some ⟨w.heap.size, 0, none⟩) 2 2)) (w.alloc (codS.ro [zSt, ⟨0, 1⟩])) := by
  unfold bsS2; rw [bs_S2]; rfl
theorem own_ne {w : World} {base base' size size' n n' c c' : Nat} {e e' : TypeId} {A A' : Option Addr} {xs xs' : List Value} (h : w.ownsRow base e size (.slice A n c) n xs) (h' : w.ownsRow base' e' size' (.slice A' n' c') n' xs') (hne : e ≠ e') : ∀ g, A.map (·.block) = some g → A'.map (·.block) ≠ some g := fun g hg hg' => by
  obtain ⟨_, cur, z, h1⟩ := own_blk h hg
  obtain ⟨_, cur', z', h2⟩ := own_blk h' hg'
  rw [h1] at h2
  injection h2 with h2
  injection h2 with _ h2 _
  exact hne h2
theorem sum_take {α : Type} (l : List α) (f : α → Nat) (j : Nat) : ((l.take j).map f).sum ≤ (l.map f).sum ∧ ∀ h : j < l.length, ((l.take (j + 1)).map f).sum = ((l.take j).map f).sum + f l[j] := by
  constructor
  · conv => rhs; rw [← List.take_append_drop j l, List.map_append, List.sum_append]
    omega
  · intro h
    rw [List.take_succ_eq_append_getElem h, List.map_append, List.sum_append]
    simp
theorem scmpG_any (w : World) (a b : St) : Calls Tryz.prog 13 #[.agg (codS.A a), .agg (codS.A b)] w (Gives w (.int .i64 (cmpS a b))) := (scmpX_v w a b).mono fun e w' ⟨h1, h2⟩ => ⟨h1, Gr.fr h2⟩
theorem GvT.none10 {xs : List RwP} (h : GvT xs) : findR xs ⟨1, 0⟩ = none ∧ kidsR ⟨1, 0⟩ xs = [] := by
  constructor
  · rw [findR_none]
    intro r hr e
    have := h.rt r hr
    rw [e] at this
    exact absurd this (by decide)
  · unfold kidsR
    rw [List.filter_eq_nil_iff.2, List.map_nil]
    intro r hr e
    have e' : r.Parent = ⟨1, 0⟩ := by simpa using e
    have := h.pr r hr
    rw [e'] at this
    exact absurd this (by decide)
theorem kids_row {xs : List RwP} (nd : (xs.map (·.Node)).Nodup) {p k : St} (h : k ∈ kidsR p xs) : ∃ x, findR xs k = some x ∧ x.Parent = p := by
  unfold kidsR at h
  obtain ⟨x, hx, rfl⟩ := List.mem_map.1 h
  obtain ⟨h1, h2⟩ := List.mem_filter.1 hx
  exact ⟨x, findR_mem nd h1, by simpa using h2⟩

set_option maxRecDepth 100000 in
set_option maxHeartbeats 16000000 in
theorem lawKids_any (W : World) (A : Option Addr) (c : Nat) (rs : List OpW) (xs : List Opn) (hs : Sl W A (codO.row rs)) (hb : rs.length ≤ 140737488355328) (hX : OpsIn W rs xs) :
    Calls Tryz.prog 6 #[.slice A rs.length c] W (Gives W (.bool true)) := by
  have HX := Lib.hid (show AllO OpIn W rs xs from ⟨hX.len, fun i h1 h2 => hX.at_ i h1 h2⟩)
  have HS := Lib.hid hs
  have HB := Lib.hid hb
  clear hX hs hb
  go_enter Tryz.func6, Tryz.ntmps6
  go_upto_region 4 with (first
    | (go_at_call 8; refine (gvNew_any _).mono ?_; rintro e w1 ⟨b, t0, rfl, h0, hu0, f1⟩)
    | (go_at_call 9; refine (l12alive_any w1).mono ?_; rintro e w2 ⟨rfl, f2⟩))
  have h2 := Lib.hid (h0.fr0 f2)
  have F2 := Lib.hid (f1.step0 f2)
  clear h0 f1 f2 hu0
  go_wp2_with (go_at_call 10; refine (l12few_any W w2 F2.out A c _ rs xs rfl (HS.out.fr0 F2.out) HB.out HX.out).mono ?_; rintro e w3 ⟨A3, c3, os, ys, rfl, o3, y3, g3, l3, f3⟩)
  have hi0 : InsLoop W b w2 A3 c3 os os.length (.int .i64 ((0 : Nat) : Int)) w3 := ⟨0, t0, [], rfl, rfl, Nat.zero_le _, h2.out.fr0 f3, by simp [SrtL], by simp, o3, F2.out.step0 f3⟩
  have Y3 := Lib.hid (And.intro y3 (And.intro g3 l3))
  clear y3 g3 l3 o3 f3 h2 F2 HX HS HB
  go_loopg [31] os.length (fun gk iv wr => InsLoop W b w2 A3 c3 os gk iv wr)
  case atStart => exact hi0
  case round =>
    clear hi0
    obtain ⟨k, t, L, rfl, rfl, hk, hG, hsr, hll, ho, hf⟩ := hrel
    have HG := Lib.hid hG
    have HSR := Lib.hid hsr
    have HLL := Lib.hid hll
    have HO := Lib.hid ho
    have HK := Lib.hid hk
    have HF := Lib.hid hf
    clear hG hsr hll hf
    by_cases hlt : k < os.length
    · have j0 : (0 : Int) ≤ (k : Int) := by omega
      have j1 : (k : Int) < (os.length : Int) := by omega
      obtain ⟨g, off, rfl, hgg⟩ := (Sl.own ho : Sl wr A3 (codO.row os)).adC (by omega)
      have e1 : codO.rd wr g (off + k * 41) = some os[k] := (Sl.own ho : Sl wr _ (codO.row os)).rd k hlt
      have hly : k < ys.length := by rw [← Y3.out.1.1]; exact hlt
      have hin := Y3.out.1.2 k hlt hly
      have hgd := Y3.out.2.1 _ (List.getElem_mem hly)
      have HLT := Lib.hid hlt
      generalize os[k] = r at e1 hin
      generalize ys[k] = x at hin hgd
      have HIN := Lib.hid hin
      have HGD := Lib.hid hgd
      clear ho hk hlt hgg hin hgd hly
      go_upto_region 7 with fail
      have f12 : Fr noB wr (wr.alloc (codO.o r)) := (Fr.refl noB wr).alloc _
      have q12 := Cod.rd_new' (C := codO) wr r
      obtain ⟨D2, hD2⟩ : ∃ x, x = wr.heap.size := ⟨_, rfl⟩
      rw [← hD2] at q12 ⊢
      have h12 := Lib.hid (HG.out.fr0 f12)
      have o12 := Lib.hid (own_new0 HO.out f12)
      have F12 := Lib.hid (HF.out.step0 f12)
      clear hD2 e1 f12 HG HO HF
      generalize wr.alloc (codO.o r) = W12 at q12 h12 o12 F12 ⊢
      have hk9 : k ≤ 100 := by have := HLT.out; have := Y3.out.2.2; omega
      go_wp2_with (go_at_call 11; refine (gvInsert_any _ W12 b t L h12.out HSR.out (by have := HLL.out; omega) r x (HIN.out.fr F12.out) (by have := goodOp_over HGD.out; omega)).mono ?_; rintro e w5 ⟨E, t5, L5, rfl, h5, m5, a5, f5, i5⟩)
      go_roundg (os.length - (k + 1))
      case measure => have := HLT.out; omega
      case rel => exact ⟨k + 1, t5, L5, rfl, rfl, HLT.out, h5, i5.srt HSR.out, by have := i5.len; have := HLL.out; omega, h12.out.own f5 o12.out (by decide) (by decide), F12.out.step f5 (fun q hq => .inl (h12.out.base hq))⟩
    · have j1 : ¬ (k : Int) < (os.length : Int) := by omega
      have HL40 := Lib.hid (show L.length ≤ 40 by have := HLL.out; have := Y3.out.2.2; omega)
      have HOK := Lib.hid HG.out.ok
      clear ho hk hlt HO HK HLL Y3
      have hgv := HG.out.gvt
      have HND := Lib.hid hgv.nd
      have H10 := Lib.hid hgv.none10
      have HCNT := Lib.hid (fun (zs : List RwP) (hp : zs.Perm (runX [] L)) => show (kidsR zSt (runX [] L)).length + (kidsR ⟨0, 1⟩ (runX [] L)).length + (zs.map fun y => (kidsR y.Node (runX [] L)).length).sum = zs.length from hgv.count hp)
      have HXL := Lib.hid (show (runX [] L).length ≤ 40 by have := runX_len [] L; have := HL40.out; simp only [List.length_nil] at *; omega)
      have HKW := Lib.hid (fun (p k : St) (hk : k ∈ kidsR p (runX [] L)) => show wfS k = true by
        unfold kidsR at hk
        obtain ⟨x, hx, rfl⟩ := List.mem_map.1 hk
        exact rightS_wf (hgv.rt x (List.mem_filter.1 hx).1))
      clear hgv
      have HL5 := Lib.hid (show L.length ≤ 100000 by have := HL40.out; omega)
      obtain ⟨WS, rfl⟩ : ∃ x, x = wr := ⟨_, rfl⟩
      have sl0 := Cod.sl_new (C := codS) WS [zSt, ⟨0, 1⟩]
      have f0 : Fr noB WS (WS.alloc (codS.ro [zSt, ⟨0, 1⟩])) := (Fr.refl noB WS).alloc _
      go_upto_region 10 with fail
      have hf := HF.out
      have HGa := Lib.hid (HG.out.fr0 f0)
      have own0 : OwnC codS WS (WS.alloc (codS.ro [zSt, ⟨0, 1⟩])) (some ⟨WS.heap.size, 0, none⟩) 2 [zSt, ⟨0, 1⟩] := Cod.own_new (C := codS) WS [zSt, ⟨0, 1⟩] (by decide)
      generalize hB0 : some (⟨WS.heap.size, 0, none⟩ : Addr) = B0 at own0 ⊢
      generalize WS.alloc (codS.ro [zSt, ⟨0, 1⟩]) = W0 at f0 own0 HGa ⊢
      clear sl0 hB0
      go_wp2_with (go_at_call 12; refine (gvRows_any HGa.out HL5.out).mono ?_; rintro e w4 ⟨A4, c4, rs4, ys4, rfl, o4, x4, ap4, p4, q4, f4⟩)
      have r40 : w4.ownsRow 0 40 8 (.slice A4 rs4.length c4) rs4.length (codR.row rs4) := own_base o4 (Nat.zero_le _)
      have HNO := Lib.hid (fun i (h : i < rs4.length) (h' : i < ys4.length) => show ys4[i].Node = (rs4[i]).Node from (x4.2 i h h').row.inn.node)
      have HP4 := Lib.hid p4
      have HLY := Lib.hid (show rs4.length = ys4.length from x4.1)
      have HL4 := Lib.hid (show rs4.length ≤ 40 by rw [x4.1, p4.length_eq]; exact HXL.out)
      have own1 : OwnC codS WS w4 B0 2 [zSt, ⟨0, 1⟩] := own_new0 own0 f4
      have F4 := Lib.hid (f0.step0 f4)
      obtain ⟨PL, hPL⟩ : ∃ PL : List St, PL = zSt :: ⟨0, 1⟩ :: ys4.map (·.Node) := ⟨_, rfl⟩
      have HPL := Lib.hid hPL
      have hPl : PL.length = ys4.length + 2 := by rw [hPL]; simp
      have HPLL := Lib.hid hPl
      have own2 : OwnC codS WS w4 B0 2 (PL.take 2) := by rw [hPL]; exact own1
      have hpt : (PL.take 2).length = 2 := by rw [hPL]; rfl
      have HNX := Lib.hid (fun j (h : j < ys4.length) => show PL.take (j + 1 + 2) = PL.take (j + 2) ++ [(ys4[j]).Node] by
        rw [hPL, List.take_succ_eq_append_getElem (i := j + 2) (by simp; omega)]
        simp)
      have h00 : ∃ (j : Nat) (B : Option Addr) (cB : Nat), (Value.int .i64 ((0 : Nat) : Int)) = .int .i64 (j : Int) ∧ rs4.length = rs4.length - j ∧ j ≤ rs4.length ∧ Value.slice B0 2 2 = .slice B (PL.take (j + 2)).length cB ∧ OwnC codS WS w4 B cB (PL.take (j + 2)) ∧ w4.ownsRow 0 40 8 (.slice A4 rs4.length c4) rs4.length (codR.row rs4) ∧ Fr noB WS w4 := ⟨0, B0, 2, rfl, rfl, by omega, by rw [show 0 + 2 = 2 from rfl, hpt], own2, r40, F4.out⟩
      clear r40 x4 p4 q4 o4 ap4 hPL hPl own0 own1 own2 hpt f0 f4 HGa
      go_loopg [45, 6] rs4.length (fun gk jv pv wr => ∃ (j : Nat) (B : Option Addr) (cB : Nat), jv = .int .i64 (j : Int) ∧ gk = rs4.length - j ∧ j ≤ rs4.length ∧ pv = .slice B (PL.take (j + 2)).length cB ∧ OwnC codS WS wr B cB (PL.take (j + 2)) ∧ wr.ownsRow 0 40 8 (.slice A4 rs4.length c4) rs4.length (codR.row rs4) ∧ Fr noB WS wr)
      case atStart => exact h00
      case round =>
        clear h00
        obtain ⟨j, B, cB, rfl, rfl, hj, rfl, hoB, hr4, fj⟩ := hrel
        have HLB := Lib.hid (show (PL.take (j + 2)).length ≤ 42 by have := HPLL.out; have := HLY.out; have := HL4.out; rw [List.length_take]; omega)
        by_cases hjl : j < rs4.length
        · have jj0 : (0 : Int) ≤ (j : Int) := by omega
          have jj1 : (j : Int) < (rs4.length : Int) := by omega
          have hjy : j < ys4.length := by rw [← HLY.out]; exact hjl
          have hs4 : Sl wr A4 (codR.row rs4) := Sl.own hr4
          obtain ⟨g4, off4, rfl, hg4⟩ := hs4.adC (by omega)
          have e2 : codR.rd wr g4 (off4 + j * 8) = some rs4[j] := hs4.rd j hjl
          have HR4 := Lib.hid hr4
          have hno := HNO.out j hjl hjy
          have hnx := HNX.out j hjy
          have HJL := Lib.hid hjl
          have hj9 : j ≤ 100 := by have := HL4.out; omega
          generalize rs4[j] = r at e2 hno
          generalize ys4[j] = y at hno hnx
          rw [hno] at hnx
          have HNX2 := Lib.hid hnx
          have HOB := Lib.hid hoB
          clear hj hjl hjy hno hnx hg4 hoB hs4 hr4
          go_upto_region 13 with fail
          have f12 : Fr noB wr (wr.alloc (codR.o r)) := (Fr.refl noB wr).alloc _
          have q12 := (rwAt (Cod.rd_new' (C := codR) wr r)).node
          obtain ⟨D, hDe⟩ : ∃ x, x = wr.heap.size := ⟨_, rfl⟩
          rw [← hDe] at q12 ⊢
          have o12 := own_new0 HOB.out f12
          have r12 := Lib.hid (own_new0 HR4.out f12)
          have F12 := fj.step0 f12
          clear hDe e2 fj f12 HOB HR4
          generalize wr.alloc (codR.o r) = W12 at q12 o12 r12 F12 ⊢
          generalize r.Node = s at q12 HNX2
          have sl := Cod.sl_new (C := codS) W12 [s]
          have fn : Fr noB W12 (W12.alloc (codS.ro [s])) := (Fr.refl noB W12).alloc _
          have o13 := own_new0 o12 fn
          have r13 := Lib.hid (own_new0 r12.out fn)
          have F13 := F12.step0 fn
          clear o12 F12 fn r12
          go_wp2_with (at_builtin; refine wpList_appC' etS WS _ rfl _ _ rfl B (PL.take (j + 2)).length cB (PL.take (j + 2)) rfl rfl o13 (some ⟨W12.heap.size, 0, none⟩) 1 1 [s] rfl sl rfl (by have := HLB.out; simp only [List.length_singleton]; omega) F13.size ?_; intro A7 c7 w7 hc7 hm7 o7 g7 hA7)
          go_roundg (rs4.length - (j + 1))
          case measure => have := HJL.out; omega
          case rel => exact ⟨j + 1, A7, c7, rfl, rfl, HJL.out, by rw [HNX2.out]; simp, by rw [HNX2.out]; exact o7, own_fr r13.out (Fr.ofGrown g7 (fun g hg => hg)) (fun g hg hm => own_ne r13.out o13 (by decide) g (by rw [ownBlock_sl'] at hg; exact hg) hm), gv_own F13 o13 g7⟩
        · have jj1 : ¬ (j : Int) < (rs4.length : Int) := by omega
          have hfull : PL.take (j + 2) = PL := List.take_of_length_le (by have := HPLL.out; have := HLY.out; omega)
          rw [hfull] at hoB HLB ⊢
          have HOB := Lib.hid hoB
          have HFJ := Lib.hid fj
          clear hj hjl hfull hoB fj hr4
          obtain ⟨WP, rfl⟩ : ∃ x, x = wr := ⟨_, rfl⟩
          have HGP := Lib.hid (HG.out.fr0 HFJ.out)
          have FP := Lib.hid (HF.out.step0 HFJ.out)
          have HSP := Lib.hid (Sl.own HOB.out : Sl WP B (codS.row PL))
          obtain ⟨cnt, hcnt⟩ : ∃ cnt : St → Nat, cnt = fun p => (kidsR p (runX [] L)).length := ⟨_, rfl⟩
          have hcn : (PL.map cnt).sum = ys4.length := by
            have := HCNT.out ys4 HP4.out
            rw [HPL.out, hcnt]
            simp only [List.map_cons, List.sum_cons, List.map_map] at this ⊢
            rw [← this]
            simp only [Function.comp_def]
            omega
          have HCN := Lib.hid hcn
          have HCT := Lib.hid hcnt
          obtain ⟨sm, hsm⟩ : ∃ sm : Nat → Nat, sm = fun j => ((PL.take j).map cnt).sum := ⟨_, rfl⟩
          have HSUM := Lib.hid (fun j => show sm j ≤ (PL.map cnt).sum ∧ ∀ h : j < PL.length, sm (j + 1) = sm j + cnt PL[j] by rw [hsm]; exact sum_take PL cnt j)
          have HSM0 := Lib.hid (show sm 0 = 0 by rw [hsm]; simp)
          have HSME := Lib.hid (show sm PL.length = (PL.map cnt).sum by rw [hsm]; simp)
          clear hsm
          have hly4 : ys4.length ≤ 40 := by rw [← HLY.out]; exact HL4.out
          have HLY4 := Lib.hid hly4
          have HLB2 := Lib.hid HLB.out
          clear hcn hcnt hly4 HOB HFJ HG HF F4
          go_upto_region 16 with fail
          go_wp2_with fail
          go_loopg [57, 9] PL.length (fun gk jv cv wr => ∃ j : Nat, jv = .int .i64 (j : Int) ∧ gk = PL.length - j ∧ j ≤ PL.length ∧ cv = .int .i64 ((sm j : Nat) : Int) ∧ Fr noB WP wr)
          case atStart => exact ⟨0, rfl, rfl, by omega, by rw [HSM0.out]; rfl, Fr.refl _ _⟩
          case round =>
            obtain ⟨j, rfl, rfl, hj, rfl, fj⟩ := hrel
            have hsj := (HSUM.out j).1
            have hcn := HCN.out
            have hly4 := HLY4.out
            by_cases hjl : j < PL.length
            · have jj0 : (0 : Int) ≤ (j : Int) := by omega
              have jj1 : (j : Int) < (PL.length : Int) := by omega
              have hsn := (HSUM.out j).2 hjl
              have hsj2 := (HSUM.out (j + 1)).1
              obtain ⟨gB, offB, rfl, hgB⟩ := HSP.out.adC (by omega)
              have e2 : codS.rd wr gB (offB + j * 2) = some PL[j] := (HSP.out.fr0 fj).rd j hjl
              have HJL := Lib.hid hjl
              generalize PL[j] = p at e2 hsn
              have HSN := Lib.hid hsn
              generalize hse : sm j = sj at hsj HSN hsn ⊢
              generalize hsq : sm (j + 1) = sq at HSN hsn hsj2
              have HSQ := Lib.hid hsq
              clear hsq
              have hj9 : j ≤ 100 := by have := HLB2.out; omega
              have HB9 := Lib.hid (show sj + cnt p ≤ 40 by omega)
              have hka : sj ≤ 40 := by omega
              clear hj hjl hsj hsj2 hcn hse hsn hly4 hgB
              go_upto_region 19 with fail
              have f12 : Fr noB wr (wr.alloc (codS.o p)) := (Fr.refl noB wr).alloc _
              have q12 := Cod.rd_new' (C := codS) wr p
              obtain ⟨D, hDe⟩ : ∃ x, x = wr.heap.size := ⟨_, rfl⟩
              rw [← hDe] at q12 ⊢
              have F12 := Lib.hid (fj.step0 f12)
              have HG12 := Lib.hid (HGP.out.fr0 F12.out)
              clear hDe e2 fj f12
              generalize wr.alloc (codS.o p) = W12 at q12 F12 HG12 ⊢
              go_wp2_with fail
              go_at_call 16
              refine (gvKids_any HG12.out HL5.out p).mono ?_
              rintro e wK ⟨A5, c5, ks, rfl, o5, pm5, pw5, f5⟩
              have HG5 := Lib.hid (HG12.out.fr0 f5)
              have F5 := Lib.hid (F12.out.step0 f5)
              have q5 := Cod.rd_fr0 q12 f5
              have Q5 := Lib.hid q5
              have S5 := Lib.hid (Sl.own o5 : Sl wK A5 (codS.row ks))
              have PW5 := Lib.hid pw5
              have HKM := Lib.hid (fun i (h : i < ks.length) => show ks[i] ∈ kidsR p (runX [] L) from pm5.mem_iff.1 (List.getElem_mem h))
              have hkl : ks.length = cnt p := by rw [HCT.out]; exact pm5.length_eq
              have HKL := Lib.hid hkl
              have hw9 : wrap64 ((sj : Int) + (ks.length : Int)) = ((sq : Nat) : Int) := by
                rw [IntWalk.wrap64_in _ (by have := HB9.out; omega), HSN.out]
                push_cast
                omega
              clear q12 F12 HG12 o5 pm5 pw5 f5 hkl
              go_upto_region 21 with fail
              rw [hw9]
              clear hw9
              go_wp2_with fail
              go_loopg [70] ks.length (fun gk iv wr => ∃ i : Nat, iv = .int .i64 (i : Int) ∧ gk = ks.length - i ∧ i ≤ ks.length ∧ Fr noB wK wr)
              case atStart => exact ⟨0, rfl, rfl, by omega, Fr.refl _ _⟩
              case round =>
                obtain ⟨i, rfl, rfl, hi, fi⟩ := hrel
                by_cases hil : i < ks.length
                · have ii0 : (0 : Int) ≤ (i : Int) := by omega
                  have ii1 : (i : Int) < (ks.length : Int) := by omega
                  obtain ⟨g5, off5, rfl, hg5⟩ := S5.out.adC (by omega)
                  have e5 : codS.rd wr g5 (off5 + i * 2) = some ks[i] := (S5.out.fr0 fi).rd i hil
                  have hkm := HKM.out i hil
                  have hkw := HKW.out _ _ hkm
                  obtain ⟨x, hfx, hxp⟩ := kids_row HND.out hkm
                  have HIL := Lib.hid hil
                  have HI := Lib.hid hi
                  have hi9 : i ≤ 40 := by have := HB9.out; have := HKL.out; omega
                  have PRV := Lib.hid (fun (q : Nat) (hq : q < ks.length) (hqi : q < i) => show codS.rd wK g5 (off5 + q * 2) = some ks[q] ∧ wfS ks[q] = true ∧ cfK (nmR (runX [] L)) ks[q] ks[i] < 0 from
                    ⟨S5.out.rd q hq, HKW.out _ _ (HKM.out q hq), (List.pairwise_iff_getElem.1 PW5.out) q i hq hil hqi⟩)
                  generalize ks[i] = kk at e5 hkw hfx PRV
                  have HFX := Lib.hid hfx
                  have HKK := Lib.hid hkw
                  have HXP := Lib.hid hxp
                  have e6 := Cod.rd_fr0 Q5.out fi
                  clear hi hil hkm hfx hxp hkw
                  go_upto_region 24 with fail
                  have f13 : Fr noB wr (wr.alloc (codS.o kk)) := (Fr.refl noB wr).alloc _
                  have q13 := Cod.rd_new' (C := codS) wr kk
                  obtain ⟨D3, hD3⟩ : ∃ x, x = wr.heap.size := ⟨_, rfl⟩
                  rw [← hD3] at q13 ⊢
                  have F13 := Lib.hid (fi.step0 f13)
                  have HG13 := Lib.hid (HG5.out.fr0 F13.out)
                  have e7 := Cod.rd_fr0 e6 f13
                  clear hD3 e5 e6 fi f13
                  generalize wr.alloc (codS.o kk) = W13 at q13 F13 HG13 e7 ⊢
                  go_wp2_with fail
                  go_at_call 18
                  refine (gvRow_any HG13.out HL5.out kk HKK.out).mono ?_
                  rintro e w14 ⟨r14, x14, rfl, hx14, hr14, _, f14⟩
                  rw [show (findR (runX [] L) kk).isSome = true from by rw [HFX.out]; rfl]
                  have hxx : x14 = x := by rw [hx14, HFX.out]; rfl
                  have hpar : r14.Parent = p := hr14.inn.parent.symm.trans (by rw [hxx]; exact HXP.out)
                  have hnam : r14.Name = nmR (runX [] L) kk := by
                    have h1 : x14.Name = r14.Name := by rw [hr14.inn.eq]; rfl
                    rw [← h1, hxx]
                    unfold nmR
                    rw [HFX.out]
                    rfl
                  have F14 := Lib.hid (F13.out.step0 f14)
                  have HG14 := Lib.hid (HG13.out.fr0 f14)
                  have e8 := Cod.rd_fr0 e7 f14
                  have q14 := Cod.rd_fr0 q13 f14
                  clear hx14 hr14 hxx f14 F13 HG13 e7 q13
                  go_upto_region 25 with fail
                  have f15 : Fr noB w14 (w14.alloc (codR.o r14)) := (Fr.refl noB w14).alloc _
                  have a15 := rwAt (Cod.rd_new' (C := codR) w14 r14)
                  have a1 := a15.parent
                  have a2 := a15.name
                  rw [hpar] at a1
                  rw [hnam] at a2
                  obtain ⟨D4, hD4⟩ : ∃ x, x = w14.heap.size := ⟨_, rfl⟩
                  rw [← hD4] at a1 a2 ⊢
                  have F15 := Lib.hid (F14.out.step0 f15)
                  have HG15 := Lib.hid (HG14.out.fr0 f15)
                  replace e8 := Cod.rd_fr0 e8 f15
                  replace q14 := Cod.rd_fr0 q14 f15
                  clear a15 hpar hnam hD4 f15 F14 HG14
                  generalize w14.alloc (codR.o r14) = W15 at a1 a2 F15 HG15 e8 q14 ⊢
                  obtain ⟨nk, hnk⟩ : ∃ nk, nk = nmR (runX [] L) kk := ⟨_, rfl⟩
                  rw [← hnk] at a2
                  have HNK := Lib.hid hnk
                  clear hnk
                  by_cases hi0 : i = 0
                  · have ii2 : ¬ (0 : Int) < (i : Int) := by omega
                    have ii9 : ¬ 0 < i := by omega
                    clear hi0
                    go_wp2_with fail
                    go_roundg (ks.length - (i + 1))
                    case measure => have := HIL.out; omega
                    case rel => exact ⟨i + 1, rfl, rfl, HIL.out, F15.out⟩
                  · have ii2 : (0 : Int) < (i : Int) := by omega
                    have ii9 : 0 < i := by omega
                    have mm5 : IntKind.i64.wrap ((i : Int) - 1) = ((i - 1 : Nat) : Int) := by rw [IntKind.wrap_i64]; omega
                    obtain ⟨e3, hw3, hc3⟩ := PRV.out (i - 1) (by have := HIL.out; omega) (by omega)
                    have q2 : i - 1 < ks.length := by have := HIL.out; omega
                    generalize ks[i - 1] = pn at e3 hw3 hc3
                    generalize hqe : i - 1 = q' at mm5 e3 q2
                    have j3 : (0 : Int) ≤ (q' : Int) := by omega
                    have j4 : (q' : Int) < (ks.length : Int) := by omega
                    replace e3 := Cod.rd_fr0 e3 F15.out
                    have HW3 := Lib.hid hw3
                    have HC3 := Lib.hid hc3
                    clear hi0 hqe q2 hw3 hc3
                    go_upto_region 28 with fail
                    go_wp2_with fail
                    go_at_call 18
                    refine (gvRow_any HG15.out HL5.out pn HW3.out).mono ?_
                    rintro e w16 ⟨r16, x16, rfl, hx16, hr16, _, f16⟩
                    have hnam : r16.Name = nmR (runX [] L) pn := by
                      have h1 : x16.Name = r16.Name := by rw [hr16.inn.eq]; rfl
                      rw [← h1, hx16]
                      rfl
                    have F16 := Lib.hid (F15.out.step0 f16)
                    replace e3 := Cod.rd_fr0 e3 f16
                    replace q14 := Cod.rd_fr0 q14 f16
                    replace a2 := cell_fr0 a2 f16
                    clear hx16 hr16 f16 F15 HG15 e8 a1
                    go_upto_region 29 with fail
                    have f17 : Fr noB w16 (w16.alloc (codR.o r16)) := (Fr.refl noB w16).alloc _
                    have b2 := (rwAt (Cod.rd_new' (C := codR) w16 r16)).name
                    rw [hnam] at b2
                    have hD6 : w16.heap.size < (w16.alloc (codR.o r16)).heap.size := by simp
                    obtain ⟨D6, hD6e⟩ : ∃ x, x = w16.heap.size := ⟨_, rfl⟩
                    rw [← hD6e] at b2 hD6 ⊢
                    have F17 := Lib.hid (F16.out.step0 f17)
                    replace e3 := Cod.rd_fr0 e3 f17
                    replace q14 := Cod.rd_fr0 q14 f17
                    replace a2 := cell_fr0 a2 f17
                    have lt1 := Cod.rd_lt e3
                    have lt2 := Cod.rd_lt q14
                    have lt3 := cell_lt a2
                    clear hnam hD6e f17 F16
                    generalize w16.alloc (codR.o r16) = W17 at b2 hD6 F17 e3 q14 a2 lt1 lt2 lt3 ⊢
                    obtain ⟨np, hnp⟩ : ∃ np, np = nmR (runX [] L) pn := ⟨_, rfl⟩
                    rw [← hnp] at b2
                    have hc := cfK_lt.1 HC3.out
                    rw [← hnp, ← HNK.out] at hc
                    have hs1 := str_toList np
                    have hs2 := str_toList nk
                    clear hnp HNK HC3
                    rcases hc with hc | ⟨hc, hc2⟩
                    · have hne : decide (np = nk) = false := decide_eq_false (by rintro rfl; rw [less_self] at hc; cases hc)
                      have hne2 : (np == nk) = false := by rw [beq_eq_false_iff_ne]; exact of_decide_eq_false hne
                      refine wp_region_fr (by kernel_rfl) (by kernel_rfl) ?_
                      iterate 12
                        refine wpQ_take (v := ?_) (by rfl) (fun wS hS => ?_) ?_
                        rotate_left
                        · obtain ⟨L1, L2, L3, L4, L5, L6⟩ := Fr.same hS; go_simp; try with_reducible rfl
                        try simp only [List.getElem_toArray, List.getElem_cons_zero, List.getElem_cons_succ, Act.put, List.setIfInBounds_toArray, List.set_cons_zero, List.set_cons_succ]
                      iterate 8
                        refine wpQ_off (by rfl) ?_
                        try simp only [List.getElem_toArray, List.getElem_cons_zero, List.getElem_cons_succ, Act.put, List.setIfInBounds_toArray, List.set_cons_zero, List.set_cons_succ]
                      iterate 2
                        refine wpQ_take (v := ?_) (by rfl) (fun wS hS => ?_) ?_
                        rotate_left
                        · obtain ⟨L1, L2, L3, L4, L5, L6⟩ := Fr.same hS; go_simp; try with_reducible rfl
                        try simp only [List.getElem_toArray, List.getElem_cons_zero, List.getElem_cons_succ, Act.put, List.setIfInBounds_toArray, List.set_cons_zero, List.set_cons_succ]
                      refine wpQ_nil ?_
                      intro w1 f1
                      go_wp2_with fail
                      go_roundg (ks.length - (i + 1))
                      case measure => have := HIL.out; omega
                      case rel => exact ⟨i + 1, rfl, rfl, HIL.out, F17.out.step0 f1⟩
                    · subst hc
                      have hl := less_self np
                      have hd : decide (np = np) = true := by simp
                      have hd2 : (np == np) = true := by simp
                      have D1 : ∀ wS, Fr noB W17 wS → Calls Tryz.prog 13 #[.agg (codS.A pn), .agg (codS.A kk)] wS (Gives wS (.int .i64 (-1))) := fun wS f => by
                        have := scmpG_any wS pn kk
                        rw [cmpS_neg hc2] at this
                        exact this
                      clear hc2
                      refine wp_region_fr (by kernel_rfl) (by kernel_rfl) ?_
                      iterate 18
                        refine wpQ_take (v := ?_) (by rfl) (fun wS hS => ?_) ?_
                        rotate_left
                        · obtain ⟨L1, L2, L3, L4, L5, L6⟩ := Fr.same hS; go_simp; try with_reducible rfl
                        try simp only [List.getElem_toArray, List.getElem_cons_zero, List.getElem_cons_succ, Act.put, List.setIfInBounds_toArray, List.set_cons_zero, List.set_cons_succ]
                      refine wpQ_call (by rfl) (fun wS hS => ⟨_, _, ?qh457, Calls.fr hS (D1 _ hS)⟩) ?qk457
                      case qh457 => obtain ⟨L1, L2, L3, L4, L5, L6⟩ := Fr.same hS; go_simp; try with_reducible rfl
                      try simp only [List.getElem_toArray, List.getElem_cons_zero, List.getElem_cons_succ, Act.put, List.setIfInBounds_toArray, List.set_cons_zero, List.set_cons_succ]
                      iterate 3
                        refine wpQ_take (v := ?_) (by rfl) (fun wS hS => ?_) ?_
                        rotate_left
                        · obtain ⟨L1, L2, L3, L4, L5, L6⟩ := Fr.same hS; go_simp; try with_reducible rfl
                        try simp only [List.getElem_toArray, List.getElem_cons_zero, List.getElem_cons_succ, Act.put, List.setIfInBounds_toArray, List.set_cons_zero, List.set_cons_succ]
                      refine wpQ_nil ?_
                      intro w1 f1
                      go_wp2_with fail
                      go_roundg (ks.length - (i + 1))
                      case measure => have := HIL.out; omega
                      case rel => exact ⟨i + 1, rfl, rfl, HIL.out, F17.out.step0 f1⟩
                · have ii1 : ¬ (i : Int) < (ks.length : Int) := by omega
                  have F19 := Lib.hid (F5.out.step0 fi)
                  clear hi hil fi
                  go_wp2_with fail
                  go_roundg (PL.length - (j + 1))
                  case measure => have := HJL.out; omega
                  case rel => exact ⟨j + 1, by first | rfl | exact congrArg (Value.int .i64) (IntWalk.wrap64_in _ (by omega)), rfl, HJL.out, by rw [HSQ.out], F19.out⟩
            · have jj1 : ¬ (j : Int) < (PL.length : Int) := by omega
              have hfin : sm j = ys4.length := by
                rw [show j = PL.length by omega, HSME.out, hcn]
              rw [hfin]
              have HGE := Lib.hid (HGP.out.fr0 fj)
              have FE := Lib.hid (FP.out.step0 fj)
              have e10 : (findR (runX [] L) ⟨1, 0⟩).isSome = false := by rw [H10.out.1]; rfl
              have HE10 := Lib.hid e10
              have HYL := Lib.hid HP4.out.length_eq
              clear hj hjl hsj hcn hly4 hfin fj e10
              obtain ⟨WE, rfl⟩ : ∃ x, x = wr := ⟨_, rfl⟩
              go_upto_region 34 with (go_at_call 18; refine (gvRow_any HGE.out HL5.out ⟨1, 0⟩ (by decide)).mono ?_; rintro e w31 ⟨r31, x31, rfl, _, _, _, f31⟩; rw [HE10.out])
              have f32 : Fr noB w31 (w31.alloc (codR.o r31)) := (Fr.refl noB w31).alloc _
              have HG32 := Lib.hid ((HGE.out.fr0 f31).fr0 f32)
              have F32 := Lib.hid ((FE.out.step0 f31).step0 f32)
              clear f31 f32
              generalize w31.alloc (codR.o r31) = W32 at HG32 F32 ⊢
              go_wp2_with (first
                | (go_at_call 12; refine (gvRows_any HG32.out HL5.out).mono ?_; rintro e w33 ⟨A33, c33, rs33, ys33, rfl, _, x33, _, p33, _, f33⟩; have hl33 : rs33.length = ys4.length := by { rw [x33.1, p33.length_eq, HYL.out] }; rw [hl33]; have HG33 := Lib.hid (HG32.out.fr0 f33); have F33 := Lib.hid (F32.out.step0 f33); clear hl33 x33 p33 f33)
                | (go_at_call 16; refine (gvKids_any HG33.out HL5.out ⟨1, 0⟩).mono ?_; rintro e w34 ⟨A34, c34, ks34, rfl, _, p34, _, f34⟩; have hl34 : ks34.length = 0 := by { rw [p34.length_eq, H10.out.2]; rfl }; rw [hl34]; have F34 := Lib.hid (F33.out.step0 f34); clear hl34 p34 f34))
              go_ret
              exact ⟨by simp, F34.out⟩
end Go.Proofs.YtdandpaeeodolaaGreat
