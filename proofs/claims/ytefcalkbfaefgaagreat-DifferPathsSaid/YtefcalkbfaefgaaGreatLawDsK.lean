/- Contract: pollardlaw14.tree. (ex_ldS_at, ex_ldO_at) The walk of DifferSelf. (ex_ldS_at, ex_ldR_at, ex_ldO_at, rdI) -/
import Derived.Test.YtefcalkbfaefgaaGreatGlFK
import Derived.Test.YtefcalkbfaefgaaGreatDtRK
import Derived.Test.YtefcalkbfaefgaaGreatLawDK
namespace Go.Proofs.YtefcalkbfaefgaaGreat
open Go.RowKit Go.Sort
set_option linter.unusedVariables false
set_option linter.unusedSimpArgs false
attribute [local go_sem] Oper.semAt_some

/-- a tree of the first operations that may be, none later than m -/
structure Tr14 (W : World) (wr : World) (b : Nat) (t : TrW) (L : List Opn) (m : Int) : Prop where
  gv : GvS W.heap.size wr b t L
  srt : SrtL L
  len : L.length ≤ 30
  T : ∀ o ∈ L, o.At.T ≤ m
  m0 : 0 ≤ m
  m1 : m ≤ 1099511627776
  fr : Fr noB W wr
def Tr14Loop (W : World) (b : Nat) (N : Nat) (gk : Nat) (iv nv : Value) (wr : World) : Prop :=
  ∃ (k : Nat) (t : TrW) (L : List Opn) (m : Int), iv = .int .i64 (k : Int) ∧ nv = .int .i64 m ∧ gk = N - k ∧ k ≤ N ∧ L.length ≤ k ∧ Tr14 W wr b t L m
def Tree14To (W : World) (e : Ending) (w' : World) : Prop :=
  ∃ (b : Nat) (t : TrW) (L : List Opn) (m : Int), e = .returned (.tuple #[.pointer (some ⟨b, 0, none⟩), .int .i64 m]) ∧ Tr14 W w' b t L m
theorem goodOp_T {o : Opn} (h : goodOp o = true) : 1 ≤ o.At.T ∧ o.At.T ≤ 1099511627776 := by
  have := (goodOp_at h).1
  unfold rightS at this
  simp only [Bool.and_eq_true, decide_eq_true_eq] at this
  omega
theorem ins_now {L L' : List Opn} {o : Opn} {u E u' m : Int} (h : InsP L o u E L' u') (hT : ∀ p ∈ L, p.At.T ≤ m) (h0 : 0 ≤ m) (h1 : m ≤ 1099511627776) :
    (E = 0 → (∀ p ∈ L', p.At.T ≤ max m o.At.T) ∧ max m o.At.T ≤ 1099511627776) ∧ (E ≠ 0 → L' = L) := by
  rcases h with ⟨_, h2, h3, _⟩ | ⟨hg, p, hp, hpo, ⟨rfl, h3, h4, _⟩ | ⟨_, h3, h4, _⟩⟩ | ⟨hg, h2, L1, L2, rfl, rfl, _⟩
  · exact ⟨fun h => absurd (h2.symm.trans h) (by decide), fun _ => h3⟩
  · have := goodOp_T hg
    exact ⟨fun _ => ⟨fun q hq => by rw [h4] at hq; have := hT q hq; omega, by omega⟩, fun h => absurd h3 h⟩
  · exact ⟨fun h => absurd (h3.symm.trans h) (by decide), fun _ => h4⟩
  · have := goodOp_T hg
    refine ⟨fun _ => ⟨fun q hq => ?_, by omega⟩, fun h => absurd h2 h⟩
    rcases List.mem_append.1 hq with hq | hq
    · have := hT q (by simp [hq]); omega
    · rcases List.mem_cons.1 hq with rfl | hq
      · omega
      · have := hT q (by simp [hq]); omega
set_option maxRecDepth 100000 in
set_option maxHeartbeats 8000000 in
theorem tree14_any (W : World) (A : Option Addr) (c : Nat) (rs : List OpW) (xs : List Opn) (n : Nat) (hn : rs.length = n) (hs : Sl W A (codO.row rs)) (hb : rs.length ≤ 140737488355328) (hX : OpsIn W rs xs) :
    Calls Tryz.prog 7 #[.slice A n c] W (Tree14To W) := by
  subst hn
  have HX := Lib.hid (show AllO OpIn W rs xs from ⟨hX.len, fun i h1 h2 => hX.at_ i h1 h2⟩)
  have HS := Lib.hid hs
  have HB := Lib.hid hb
  clear hX hs hb
  go_enter Tryz.func7, Tryz.ntmps7
  go_upto_region 4 with (go_at_call 18; refine (gvNew_any _).mono ?_; rintro e w1 ⟨b, t0, rfl, h0, hu0, f1⟩)
  have hi0 : Tr14Loop W b rs.length rs.length (.int .i64 ((0 : Nat) : Int)) (.int .i64 0) w1 := ⟨0, t0, [], 0, rfl, rfl, rfl, Nat.zero_le _, by simp, h0, by simp [SrtL], by simp, by simp, by omega, by omega, f1⟩
  clear h0 f1 hu0
  go_loopg [11, 5] rs.length (fun gk iv nv wr => Tr14Loop W b rs.length gk iv nv wr)
  case atStart => exact hi0
  case round =>
    clear hi0
    obtain ⟨k, t, L, m, rfl, rfl, rfl, hk, hlk, hT⟩ := hrel
    have HT := Lib.hid hT
    have HLK := Lib.hid hlk
    have HK := Lib.hid hk
    clear hT hlk
    by_cases hlt : k < rs.length
    · have j0 : (0 : Int) ≤ (k : Int) := by omega
      have j1 : (k : Int) < (rs.length : Int) := by omega
      obtain ⟨g, off, rfl, hgg⟩ := HS.out.adC (by omega)
      have e1 : codO.rd wr g (off + k * 41) = some rs[k] := (HS.out.fr0 HT.out.fr).rd k hlt
      have hlx : k < xs.length := by rw [← HX.out.1]; exact hlt
      have hin := HX.out.2 k hlt hlx
      have HLT := Lib.hid hlt
      generalize rs[k] = r at e1 hin
      generalize xs[k] = x at hin
      have HIN := Lib.hid (hin.fr HT.out.fr)
      have hat : x.At = r.At := by rw [hin.eq]; rfl
      have HAT := Lib.hid hat
      have hov : x.Over.length ≤ 140737488355328 := hin.bd
      have HOV := Lib.hid hov
      clear hk hlt hgg hin hat hov
      go_upto_region 6 with fail
      have f12 : Fr noB wr (wr.alloc (codO.o r)) := (Fr.refl noB wr).alloc _
      have q12 := Cod.rd_new' (C := codO) wr r
      obtain ⟨D2, hD2⟩ : ∃ x, x = wr.heap.size := ⟨_, rfl⟩
      rw [← hD2] at q12 ⊢
      have HG12 := Lib.hid (HT.out.gv.fr0 f12)
      have HIN12 := Lib.hid (HIN.out.fr f12)
      have F12 := Lib.hid (HT.out.fr.step0 f12)
      have HOFF := Lib.hid (show ¬ trM b t D2 from HT.out.gv.off (Nat.le_of_eq hD2.symm))
      clear hD2 e1 f12
      generalize wr.alloc (codO.o r) = W12 at q12 HG12 HIN12 F12 ⊢
      by_cases hk30 : k < 30
      · have i30 : (k : Int) < 30 := by omega
        have HK30 := Lib.hid hk30
        clear hk30
        go_wp2_with (go_at_call 11; go_loud (refine (gvInsertX_any _ W12 b t L HG12.out HT.out.srt (by have := HT.out.len; omega) r x HIN12.out).mono ?_; rintro e w5 ⟨E, t5, L5, rfl, h5, m5, a5, f5, i5⟩; obtain ⟨u1, u2, u3, u4, u5, u6, u7, u8, u9, u10⟩ := opAt (Cod.rd_fr q12 f5 HOFF.out); clear u1 u3 u4 u5 u6 u7 u8 u9 u10 q12))
        · rename_i hE
          have hE0 : E = 0 := by simpa using hE
          obtain ⟨n1, n2⟩ := (ins_now i5 HT.out.T HT.out.m0 HT.out.m1).1 hE0
          rw [HAT.out] at n1 n2
          have hln := i5.len
          go_roundg (rs.length - (k + 1))
          case measure => have := HLT.out; omega
          case rel => exact ⟨k + 1, t5, L5, max m r.At.T, congrArg (Value.int .i64) (by simp), rfl, rfl, HLT.out, by have := HLK.out; omega, h5, i5.srt HT.out.srt, by have := HLK.out; have := HK30.out; omega, n1, by have := HT.out.m0; omega, n2, F12.out.step f5 (fun q hq => .inl (HG12.out.base hq))⟩
        · rename_i hE
          have hE0 : E ≠ 0 := by simpa using hE
          have hL := (ins_now i5 HT.out.T HT.out.m0 HT.out.m1).2 hE0
          have hln := i5.len
          go_roundg (rs.length - (k + 1))
          case measure => have := HLT.out; omega
          case rel => exact ⟨k + 1, t5, L5, m, congrArg (Value.int .i64) (by simp), rfl, rfl, HLT.out, by have := HLK.out; omega, h5, i5.srt HT.out.srt, by have := HLK.out; have := HK30.out; omega, by rw [hL]; exact HT.out.T, HT.out.m0, HT.out.m1, F12.out.step f5 (fun q hq => .inl (HG12.out.base hq))⟩
      · have i30 : ¬ (k : Int) < 30 := by omega
        clear hk30
        go_wp2_with fail
        go_roundg (rs.length - (k + 1))
        case measure => have := HLT.out; omega
        case rel => exact ⟨k + 1, t, L, m, congrArg (Value.int .i64) (IntWalk.wrap64_in _ (by have := HB.out; have := HLT.out; omega)), rfl, rfl, HLT.out, by have := HLK.out; omega, HG12.out, HT.out.srt, HT.out.len, HT.out.T, HT.out.m0, HT.out.m1, F12.out⟩
    · have j1 : ¬ (k : Int) < (rs.length : Int) := by omega
      clear hk hlt
      go_wp2_with fail
      refine bodyPost_ret (results_tmp2 rfl _ _ _) rfl ?_
      exact ⟨b, t, L, m, rfl, HT.out⟩
end Go.Proofs.YtefcalkbfaefgaaGreat
namespace Go.Proofs.YtefcalkbfaefgaaGreat
open Go.RowKit Go.Sort
set_option linter.unusedVariables false
set_option linter.unusedSimpArgs false
attribute [local go_sem] Oper.semAt_some

theorem allTwo_self {α : Type} (f : α → α → Bool) (hf : ∀ x, f x x = true) : ∀ l : List α, allTwo f l l = true
  | [] => rfl
  | x :: l => by
    show (f x x && allTwo f l l) = true
    rw [hf, allTwo_self f hf l]
    rfl
theorem alikeR_self (xs : List RwP) : alikeR xs xs = true := allTwo_self _ (fun x => by simp [alikeRP, sameDt_self]) _
theorem filter_take {α : Type} {l : List α} {p : α → Bool} {k : Nat} (h : k < l.length) : ((l.take (k + 1)).filter p).length = ((l.take k).filter p).length + (if p l[k] then 1 else 0) := by
  rw [List.take_succ_eq_append_getElem h, List.filter_append, List.length_append]
  congr 1
  by_cases hp : p l[k] = true <;> simp [hp]
/-- those of which something holds are counted -/
def SfLoop {α : Type} (W : World) (ys : List α) (p : α → Bool) (N : Nat) (gk : Nat) (iv cv : Value) (wr : World) : Prop :=
  ∃ k : Nat, iv = .int .i64 (k : Int) ∧ cv = .int .i64 ((((ys.take k).filter p).length : Nat) : Int) ∧ gk = N - k ∧ k ≤ N ∧ Fr noB W wr
set_option maxRecDepth 100000 in
set_option maxHeartbeats 16000000 in
theorem lawSelf_any (W : World) (A : Option Addr) (c : Nat) (rs : List OpW) (xs : List Opn) (hs : Sl W A (codO.row rs)) (hb : rs.length ≤ 140737488355328) (hX : OpsIn W rs xs) :
    Calls Tryz.prog 3 #[.slice A rs.length c] W (Gives W (.bool true)) := by
  have CT := Lib.hid (fun w' (f : Fr noB W w') => tree14_any w' A c rs xs _ rfl (hs.fr0 f) hb (hX.fr f))
  clear hs hb hX
  go_enter Tryz.func3, Tryz.ntmps3
  go_upto_region 4 with (first
    | (go_at_call 6; refine (alive14_any _).mono ?_; rintro e w1 ⟨rfl, f1⟩)
    | (go_at_call 7; refine (CT.out w1 f1).mono ?_; rintro e w2 ⟨b, t, L, m, rfl, T2⟩))
  have HT := Lib.hid T2
  have F2 := Lib.hid (f1.step0 T2.fr)
  clear f1 T2 CT
  by_cases hm : m > 549755813888
  · have i1 : (549755813888 : Int) < m := hm
    clear hm
    go_wp2_with fail
    go_ret
    exact ⟨rfl, F2.out⟩
  · have i1 : ¬ (549755813888 : Int) < m := hm
    have hG := HT.out.gv
    have HM := Lib.hid (show 0 ≤ m ∧ m ≤ 549755813888 from ⟨HT.out.m0, by omega⟩)
    clear hm
    have CR := Lib.hid (gvRows_any hG (by have := HT.out.len; omega))
    have HGV := Lib.hid hG.gvt
    have HOK := Lib.hid hG.ok
    clear hG
    go_upto_region 7 with (go_at_call 8; refine CR.out.mono ?_; rintro e w3 ⟨A3, c3, rs3, ys, rfl, o3, x3, ap3, p3, q3, f3⟩)
    have HRG := Lib.hid (rows_g HOK.out HT.out.srt (by have := HT.out.len; omega) HT.out.T HGV.out p3 q3)
    have HS3 := Lib.hid (Sl.own o3)
    have HR3 := Lib.hid (show RwsIn w3 rs3 ys from ⟨x3.1, fun i h h' => (x3.2 i h h').row.inn⟩)
    have HLY := Lib.hid (show rs3.length = ys.length from x3.1)
    have F3 := Lib.hid (F2.out.step0 f3)
    have HHB := Lib.hid (show ∀ y ∈ ys, y.Heads.length ≤ 2932031007402 from fun y hy => by have := HRG.out.few y hy; omega)
    have HL60 := Lib.hid (show rs3.length ≤ 60 by rw [HLY.out]; exact HRG.out.len)
    clear CR HGV HOK o3 x3 ap3 p3 q3 f3 F2 i1
    have wm : IntKind.i64.wrap (m + 1) = m + 1 := by rw [IntKind.wrap_i64]; have := HM.out; omega
    go_upto_region 8 with fail
    have HSR := Lib.hid (show rightS ⟨m + 1, 1⟩ = true by unfold rightS; have := HM.out; simp only [Bool.and_eq_true, decide_eq_true_eq]; omega)
    have fS : Fr noB w3 (w3.alloc (codS.o ⟨m + 1, 1⟩)) := (Fr.refl noB w3).alloc _
    have qS := Cod.rd_new' (C := codS) w3 (⟨m + 1, 1⟩ : St)
    have F4 := Lib.hid (F3.out.step0 fS)
    have FS := Lib.hid fS
    clear wm fS
    generalize w3.alloc (codS.o ⟨m + 1, 1⟩) = W4 at qS F4 FS ⊢
    generalize w3.heap.size = N at qS ⊢
    have n0 : Sl W4 none (codR.row ([] : List RwW)) := Sl.nil _ _
    have CD1 := Lib.hid (fun w' (f : Fr noB W4 w') => diff_any w' A3 A3 c3 c3 _ _ rs3 rs3 ys ys rfl rfl ((HS3.out.fr0 FS.out).fr0 f) ((HS3.out.fr0 FS.out).fr0 f) ((HR3.out.fr FS.out).fr f) ((HR3.out.fr FS.out).fr f) (by have := HL60.out; omega) (by have := HL60.out; omega) HHB.out HHB.out ⟨m + 1, 1⟩)
    have CD2 := Lib.hid (fun w' (f : Fr noB W4 w') => diff_any w' A3 none c3 0 _ 0 rs3 [] ys [] rfl rfl ((HS3.out.fr0 FS.out).fr0 f) (Sl.nil _ _) ((HR3.out.fr FS.out).fr f) ⟨rfl, fun i h => absurd h (by simp)⟩ (by have := HL60.out; omega) (by simp) HHB.out (by simp) ⟨m + 1, 1⟩)
    have CD3 := Lib.hid (fun w' (f : Fr noB W4 w') => diff_any w' none A3 0 c3 0 _ [] rs3 [] ys rfl rfl (Sl.nil _ _) ((HS3.out.fr0 FS.out).fr0 f) ⟨rfl, fun i h => absurd h (by simp)⟩ ((HR3.out.fr FS.out).fr f) (by simp) (by have := HL60.out; omega) (by simp) HHB.out ⟨m + 1, 1⟩)
    clear n0
    go_upto_region 9 with (go_at_call 9; refine (CD1.out _ (Fr.refl noB _)).mono ?_; rintro e w5 ⟨E5, A5, c5, ro5, os5, rfl, hl5, s5, i5, b5, f5, hd5, _⟩)
    obtain ⟨rfl, rfl⟩ := diff_self (HRG.out.tree (by have := HM.out; omega)) HSR.out hd5
    have q5 := Cod.rd_fr0 qS f5
    clear CD1 hl5 s5 i5 b5 hd5 qS
    go_upto_region 10 with (go_at_call 9; refine (CD2.out _ f5).mono ?_; rintro e w6 ⟨E6, A6, c6, ro6, os6, rfl, hl6, s6, i6, b6, f6, hd6, _⟩)
    obtain ⟨rfl, hcnt⟩ := diff_gone HRG.out (show m < m + 1 by omega) (show m + 1 ≤ 549755813889 by have := HM.out; omega) HSR.out hd6
    have HCNT := Lib.hid hcnt
    have q6 := Cod.rd_fr0 q5 f6
    have g6 := f5.step0 f6
    clear CD2 hl6 s6 i6 b6 hd6 q5 f5 f6 hcnt
    go_upto_region 11 with (go_at_call 9; refine (CD3.out _ g6).mono ?_; rintro e w7 ⟨E7, A7, c7, ro7, os7, rfl, hl7, s7, i7, b7, f7, hd7, _⟩)
    have HALL := Lib.hid (diff_all HRG.out (show m < m + 1 by omega) (show m + 1 ≤ 549755813889 by have := HM.out; omega) HSR.out hd7)
    have g7 := g6.step0 f7
    have F7 := Lib.hid (F4.out.step0 g7)
    have HS7 := Lib.hid ((HS3.out.fr0 FS.out).fr0 g7)
    have HR7 := Lib.hid ((HR3.out.fr FS.out).fr g7)
    have HO7 := Lib.hid (And.intro hl7 (And.intro s7 (And.intro i7 b7)))
    clear CD3 hl7 s7 i7 b7 hd7 q6 g6 f7 g7 F4 FS HS3 HR3 F3
    go_wp2_with fail
    have hi0 : SfLoop w7 ys (fun y => !decide (y.Parent = trS)) rs3.length rs3.length (.int .i64 ((0 : Nat) : Int)) (.int .i64 ((0 : Nat) : Int)) w7 := ⟨0, rfl, rfl, rfl, Nat.zero_le _, Fr.refl _ _⟩
    go_loopg [54, 13] rs3.length (fun gk iv cv wr => SfLoop w7 ys (fun y => !decide (y.Parent = trS)) rs3.length gk iv cv wr)
    case atStart => exact hi0
    case round =>
      clear hi0
      obtain ⟨k, rfl, rfl, rfl, hk, hf⟩ := hrel
      by_cases hlt : k < rs3.length
      · have j0 : (0 : Int) ≤ (k : Int) := by omega
        have j1 : (k : Int) < (rs3.length : Int) := by omega
        have hly : k < ys.length := by rw [← HLY.out]; exact hlt
        obtain ⟨g, off, rfl, hgg⟩ := HS7.out.adC (by omega)
        have e1 : codR.rd wr g (off + k * 8) = some rs3[k] := (HS7.out.fr0 hf).rd k hlt
        have hin := HR7.out.at_ k hlt hly
        have HTK := Lib.hid (filter_take (p := fun y : RwP => !decide (y.Parent = trS)) hly)
        generalize rs3[k] = r at e1 hin
        generalize ys[k] = y at hin HTK
        have ep := hin.parent
        rw [ep] at HTK
        have HLT := Lib.hid hlt
        have hcl : ((ys.take k).filter fun y => !decide (y.Parent = trS)).length ≤ 60 := by
          have h1 := List.length_filter_le (fun y : RwP => !decide (y.Parent = trS)) (ys.take k)
          have h2 := HRG.out.len
          rw [List.length_take] at h1
          omega
        have HCL := Lib.hid hcl
        have hk60 : k ≤ 60 := by have := HL60.out; omega
        have HK60 := Lib.hid hk60
        clear hk hlt hly hgg hin ep hcl hk60
        generalize ((ys.take k).filter fun y => !decide (y.Parent = trS)).length = cn at HTK HCL ⊢
        go_upto_region 15 with fail
        have f12 : Fr noB wr (wr.alloc (codR.o r)) := (Fr.refl noB wr).alloc _
        have q12 := (rwAt (Cod.rd_new' (C := codR) wr r)).parent
        have F12 := Lib.hid (hf.step0 f12)
        clear e1 f12 hf
        generalize wr.alloc (codR.o r) = W12 at q12 F12 ⊢
        generalize wr.heap.size = D2 at q12 ⊢
        have W64 : ∀ n : Nat, n ≤ 60 → Value.int .i64 (wrap64 ((n : Int) + 1)) = Value.int .i64 ((n + 1 : Nat) : Int) := fun n hn => congrArg (Value.int .i64) ((IntWalk.wrap64_in _ (by omega)).trans (by simp))
        by_cases hp : r.Parent = trS
        · have d1 : decide (r.Parent = (⟨0, 1⟩ : St)) = true := by simpa [trS] using hp
          have d2 : decide (r.Parent = trS) = true := by simp [hp]
          rw [d2] at HTK
          clear hp
          go_wp2_with fail
          go_roundg (rs3.length - (k + 1))
          case measure => have := HLT.out; omega
          case rel => exact ⟨k + 1, W64 _ HK60.out, by rw [HTK.out]; simp, rfl, HLT.out, F12.out⟩
        · have d1 : decide (r.Parent = (⟨0, 1⟩ : St)) = false := by simpa [trS] using hp
          have d2 : decide (r.Parent = trS) = false := by simp [hp]
          rw [d2] at HTK
          clear hp
          go_wp2_with fail
          go_roundg (rs3.length - (k + 1))
          case measure => have := HLT.out; omega
          case rel => exact ⟨k + 1, W64 _ HK60.out, by rw [HTK.out]; exact W64 _ HCL.out, rfl, HLT.out, F12.out⟩
      · have j1 : ¬ (k : Int) < (rs3.length : Int) := by omega
        have hty : ys.take k = ys := List.take_of_length_le (by rw [← HLY.out]; omega)
        rw [hty, ← HCNT.out]
        have F8 := Lib.hid (F7.out.step0 hf)
        have CK := Lib.hid (alike_any wr A3 A3 c3 c3 _ _ rs3 rs3 ys ys rfl rfl (HS7.out.fr0 hf) (HS7.out.fr0 hf) (HR7.out.fr hf) (HR7.out.fr hf) (by have := HL60.out; omega) (by have := HL60.out; omega) HRG.out.gv.nd HRG.out.gv.nd HHB.out HHB.out)
        rw [alikeR_self] at CK
        have HO8 := Lib.hid (And.intro HO7.out.1 (And.intro (HO7.out.2.1.fr0 hf) (And.intro (HO7.out.2.2.1.fr hf) HO7.out.2.2.2)))
        clear hty hk hlt hf
        have e6 : ((os6.length : Int) != (os6.length : Int)) = false := by simp
        go_upto_region 22 with (go_at_call 10; refine CK.out.mono ?_; rintro e w9 ⟨rfl, f9⟩)
        have F9 := Lib.hid (F8.out.step0 f9)
        have HO9 := Lib.hid (And.intro (HO8.out.2.1.fr0 f9) (HO8.out.2.2.1.fr f9))
        have HOB := Lib.hid (And.intro HO8.out.1 HO8.out.2.2.2)
        clear CK f9
        have HLR := Lib.hid (HOB.out.1)
        have hi0 : SfLoop w9 os7 (fun o => decide (o.Kind = 1)) os7.length os7.length (.int .i64 ((0 : Nat) : Int)) (.int .i64 ((0 : Nat) : Int)) w9 := ⟨0, rfl, rfl, rfl, Nat.zero_le _, Fr.refl _ _⟩
        go_loopg [90, 16] os7.length (fun gk iv cv wr => SfLoop w9 os7 (fun o => decide (o.Kind = 1)) os7.length gk iv cv wr)
        case atStart => exact hi0
        case round =>
          clear hi0
          obtain ⟨q, rfl, rfl, rfl, hq, hfq⟩ := hrel
          by_cases hlt : q < os7.length
          · have jj0 : (0 : Int) ≤ (q : Int) := by omega
            have jj1 : (q : Int) < (os7.length : Int) := by omega
            have hlr : q < ro7.length := by rw [HLR.out]; exact hlt
            obtain ⟨g7, off7, rfl, hg7⟩ := HO9.out.1.adC (by omega)
            have e1 : codO.rd wr g7 (off7 + q * 41) = some ro7[q] := (HO9.out.1.fr0 hfq).rd q hlr
            have hin := HO9.out.2.at_ q hlr hlt
            have HTK := Lib.hid (filter_take (p := fun o : Opn => decide (o.Kind = 1)) hlt)
            generalize ro7[q] = r at e1 hin
            generalize os7[q] = o at hin HTK
            have ek : o.Kind = r.Kind := by rw [hin.eq]; rfl
            rw [ek] at HTK
            have HLT := Lib.hid hlt
            have HCL := Lib.hid (show ((os7.take q).filter fun o => decide (o.Kind = 1)).length ≤ 100000 by
              have h1 := List.length_filter_le (fun o : Opn => decide (o.Kind = 1)) (os7.take q)
              have h2 := HOB.out.2
              rw [List.length_take] at h1
              omega)
            have HQ := Lib.hid (show q ≤ 100000 by have := HOB.out.2; omega)
            clear hq hlt hlr hg7 hin ek
            generalize ((os7.take q).filter fun o => decide (o.Kind = 1)).length = cn at HTK HCL ⊢
            go_upto_region 24 with fail
            have f12 : Fr noB wr (wr.alloc (codO.o r)) := (Fr.refl noB wr).alloc _
            obtain ⟨u1, _⟩ := opAt (Cod.rd_new' (C := codO) wr r)
            have F12 := Lib.hid (hfq.step0 f12)
            clear e1 f12 hfq
            generalize wr.alloc (codO.o r) = W12 at u1 F12 ⊢
            generalize wr.heap.size = D2 at u1 ⊢
            have W64 : ∀ n : Nat, n ≤ 100000 → Value.int .i64 (wrap64 ((n : Int) + 1)) = Value.int .i64 ((n + 1 : Nat) : Int) := fun n hn => congrArg (Value.int .i64) ((IntWalk.wrap64_in _ (by omega)).trans (by simp))
            by_cases hp : r.Kind = 1
            · have d1 : (r.Kind == 1) = true := by simp [hp]
              have d2 : decide (r.Kind = 1) = true := by simp [hp]
              rw [d2] at HTK
              clear d2 hp
              go_wp2_with fail
              go_roundg (os7.length - (q + 1))
              case measure => have := HLT.out; omega
              case rel => exact ⟨q + 1, W64 _ HQ.out, by rw [HTK.out]; exact W64 _ HCL.out, rfl, HLT.out, F12.out⟩
            · have d1 : (r.Kind == 1) = false := by simp [hp]
              have d2 : decide (r.Kind = 1) = false := by simp [hp]
              rw [d2] at HTK
              clear d2 hp
              go_wp2_with fail
              go_roundg (os7.length - (q + 1))
              case measure => have := HLT.out; omega
              case rel => exact ⟨q + 1, W64 _ HQ.out, by rw [HTK.out]; simp, rfl, HLT.out, F12.out⟩
          · have jj1 : ¬ (q : Int) < (os7.length : Int) := by omega
            have htq : os7.take q = os7 := List.take_of_length_le (by omega)
            rw [htq]
            have FE := F9.out.step0 hfq
            rcases HALL.out with rfl | ⟨rfl, hcc⟩
            · clear htq hq hlt
              go_wp2_with fail
              go_ret
              exact ⟨rfl, FE⟩
            · rw [hcc, ← HLY.out]
              clear htq hq hlt hcc
              go_wp2_with fail
              go_ret
              exact ⟨by simp, FE⟩
theorem lawSelf14 (W : World) (A : Option Addr) (c : Nat) (rs : List OpW) (xs : List Opn) (hs : Sl W A (codO.row rs)) (hb : rs.length ≤ 140737488355328) (hX : OpsIn W rs xs) :
    Calls Tryz.prog 3 #[.slice A rs.length c] W (Gives W (.bool true)) := lawSelf_any W A c rs xs hs hb hX
end Go.Proofs.YtefcalkbfaefgaaGreat
