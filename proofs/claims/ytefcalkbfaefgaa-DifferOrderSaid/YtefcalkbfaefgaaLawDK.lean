/- Contract: pollardlaw14.alive. -/
import Derived.Test.YtefcalkbfaefgaaDifLK
namespace Go.Proofs.Ytefcalkbfaefgaa
open Go.RowKit Go.Sort
set_option linter.unusedVariables false
set_option linter.unusedSimpArgs false

def r1 : RwW := ⟨⟨1, 1⟩, zSt, ⟨1, 1⟩, [97], none, 0, 0⟩
def x1 : RwP := ⟨⟨1, 1⟩, zSt, ⟨1, 1⟩, [97], []⟩
@[simp] theorem bldS_11 (w : World) : (Instr.build 24 #[(0, .int .i64 1), (1, .int .i64 1)]).run Try.prog w = .ok (.agg (codS.A ⟨1, 1⟩)) w := bldS_2 w 1 1
@[simp] theorem bldS_51 (w : World) : (Instr.build 24 #[(0, .int .i64 5), (1, .int .i64 1)]).run Try.prog w = .ok (.agg (codS.A ⟨5, 1⟩)) w := bldS_2 w 5 1
theorem bldR_1 (w : World) : (Instr.build 44 #[(0, .agg (codS.A ⟨1, 1⟩)), (2, .agg (codS.A ⟨1, 1⟩)), (3, .string ⟨#[97]⟩)]).run Try.prog w = .ok (.agg (codR.A r1)) w := by
  rw [Cod.A_eq, Cod.A_eq]
  kernel_rfl
@[simp ↓] theorem ex_bldR1 (ρ : Operand → Value) (x0 x2 x3 : Operand) (d : Option Nat) (t : TypeId) (p : String) (f : Array Edge) (g : Option (Nat × Bool)) (w : World) :
    (execOp ρ { dst := d, op := .build 44 #[(0, x0), (2, x2), (3, x3)], type := t, pos := p, after := f, guard := g }).run Try.prog w = mkB 44 w [(0, ρ x0), (2, ρ x2), (3, ρ x3)] := (exB ρ _ _ _ rfl w).trans (by simp only [List.map_toArray, List.map_cons, List.map_nil])
@[simp] theorem mkB_R1 (w : World) : mkB 44 w [(0, .agg (codS.A ⟨1, 1⟩)), (2, .agg (codS.A ⟨1, 1⟩)), (3, .string ⟨#[97]⟩)] = .ok (.value (.agg (codR.A r1))) w := mkB_ok (bldR_1 w)
def OneTo (w : World) (e : Ending) (w' : World) : Prop := ∃ g, e = .returned (.slice (some ⟨g, 0, none⟩) 1 1) ∧ Sl w' (some ⟨g, 0, none⟩) (codR.row [r1]) ∧ Fr noB w w'
set_option maxRecDepth 100000 in
theorem one_any (w : World) : Calls Try.prog 17 #[] w (OneTo w) := by
  have f1 : Fr noB w (w.alloc (codS.o ⟨1, 1⟩)) := (Fr.refl noB w).alloc _
  have q1 := Cod.rd_new' (C := codS) w ⟨1, 1⟩
  go_enter Try.func17, Try.ntmps17
  go_wp2_with fail
  go_ret
  refine ⟨_, rfl, ?_, f1.alloc _⟩
  have := Cod.sl_new (C := codR) (w.alloc (codS.o ⟨1, 1⟩)) [r1]
  simpa using this
theorem in1 (w : World) : RwsIn w [r1] [x1] := ⟨rfl, fun i h1 h2 => by
  have hi : i = 0 := by simp at h1; omega
  subst hi
  show RwIn w r1 x1
  exact ⟨rfl, rfl, Sl.nil _ _, by decide, by decide, by decide, by decide⟩⟩
theorem in0 (w : World) : RwsIn w [] [] := ⟨rfl, fun i h => absurd h (by simp)⟩
theorem right1 : rightR x1 = true := by decide
theorem tree1 : TreeOk [x1] := treeOk_of (by decide) (fun i h => by
  have hi : i = 0 := by simp at h; omega
  subst hi
  exact right1) (fun i j h1 h2 h3 => by simp at h2; omega) (fun i h => by
  have hi : i = 0 := by simp at h; omega
  subst hi
  exact ⟨1, show reach [x1] 1 ⟨1, 1⟩ = true by decide⟩)
theorem tree0 : TreeOk [] := treeOk_of (by decide) (fun i h => absurd h (by simp)) (fun i j h1 h2 h3 => absurd h2 (by simp)) (fun i h => absurd h (by simp))
def oA : Opn := ⟨1, ⟨5, 1⟩, ⟨1, 1⟩, zSt, [97], zID, []⟩
def oB : Opn := ⟨1, ⟨5, 1⟩, ⟨1, 1⟩, trS, [97], zID, []⟩
theorem allA : allO [] [x1] ⟨5, 1⟩ [x1] = [oA] := rfl
theorem allB : allO [x1] [] ⟨5, 1⟩ [] = [oB] := rfl
theorem goodA : goodOp oA = true := by decide
theorem goodB : goodOp oB = true := by decide
/-- what is told of nothing and a row -/
theorem diffA {E : Int} {os : List Opn} (h : DiffTo [] [x1] ⟨5, 1⟩ E os) : E = 0 ∧ os = [oA] := by
  have hE : E = 0 := h.yes tree0 tree1 (by decide) (fun l hl => by
    have : l = [x1] := List.perm_singleton.1 hl
    subst this
    rw [allA]
    exact ⟨fun o ho => by rw [List.mem_singleton] at ho; subst ho; exact goodA, by decide⟩) (fun r hr => by rw [List.mem_singleton] at hr; subst hr; decide)
  obtain ⟨_, _, _, ⟨l, hl, ho⟩, _⟩ := h.ok hE
  have : l = [x1] := List.perm_singleton.1 hl
  subst this
  exact ⟨hE, by rw [ho, allA]⟩
theorem diffB {E : Int} {os : List Opn} (h : DiffTo [x1] [] ⟨5, 1⟩ E os) : E = 0 ∧ os = [oB] := by
  have hE : E = 0 := h.yes tree1 tree0 (by decide) (fun l hl => by
    have : l = [] := List.Perm.eq_nil hl
    subst this
    rw [allB]
    exact ⟨fun o ho => by rw [List.mem_singleton] at ho; subst ho; exact goodB, by decide⟩) (fun r hr => by cases hr)
  obtain ⟨_, _, _, ⟨l, hl, ho⟩, _⟩ := h.ok hE
  have : l = [] := List.Perm.eq_nil hl
  subst this
  exact ⟨hE, by rw [ho, allB]⟩
theorem path1 : pathR [x1] ⟨1, 1⟩ = [97] := by decide
theorem alike1 : alikeR [x1] [x1] = true := by decide
theorem alike0 : alikeR [x1] [] = false := by decide
theorem alive1 : aliveR [x1] = [x1] := rfl
/-- the one operation that is told, in memory -/
theorem opOne {w : World} {A : Option Addr} {rs : List OpW} {o : Opn} (hl : rs.length = 1) (hs : Sl w A (codO.row rs)) (hi : OpsIn w rs [o]) : ∃ g off, A = some ⟨g, off, none⟩ ∧ w.cell? ⟨g, off, none⟩ = some (.int .i64 o.Kind) ∧ w.cell? ⟨g, off + 1, none⟩ = some (.int .i64 o.At.T) ∧ codS.rd w g (off + 5) = some o.Parent := by
  match rs, hl with
  | [r], _ =>
    have hin := hi.at_ 0 (by simp) (by simp)
    obtain ⟨g, off, rfl, hg⟩ := hs.adC (by simp)
    have hr : codO.rd w g (off + 0 * 41) = some r := hs.rd 0 (by simp)
    rw [Nat.zero_mul, Nat.add_zero] at hr
    have e : o = opOf r o.Over := hin.eq
    have ek : o.Kind = r.Kind := by rw [e]; rfl
    have ea : o.At = r.At := by rw [e]; rfl
    have ep : o.Parent = r.Parent := by rw [e]; rfl
    rw [ek, ea, ep]
    clear e ek ea ep
    refine ⟨g, off, rfl, ?_, ?_, ?_⟩
    · have := Cod.rd_cell hr 0 (v := .int .i64 r.Kind) rfl
      simpa using this
    · have := Cod.rd_cell hr 1 (v := .int .i64 r.At.T) rfl
      exact this
    · have := Cod.rd_part (C' := codS) hr 5 (y := r.Parent) (get2 _ _ 5 rfl rfl)
      exact this
set_option maxRecDepth 100000 in
set_option maxHeartbeats 4000000 in
theorem alive14_any (w : World) : Calls Try.prog 5 #[] w (Gives w (.bool true)) := by
  have hb1 : ∀ x ∈ [x1], x.Heads.length ≤ 2932031007402 := fun x hx => by rw [List.mem_singleton] at hx; subst hx; decide
  have hb0 : ∀ x ∈ ([] : List RwP), x.Heads.length ≤ 2932031007402 := fun x hx => by cases hx
  go_enter Try.func5, Try.ntmps5
  go_upto_region 2 with (first
    | (go_at_call 17; refine (one_any _).mono ?_; rintro e w1 ⟨g1, rfl, s1, f1⟩)
    | (go_at_call 14; refine (diff_any w1 none (some ⟨g1, 0, none⟩) 0 1 0 1 [] [r1] [] [x1] rfl rfl (Sl.nil _ _) s1 (in0 _) (in1 _) (by decide) (by decide) hb0 hb1 ⟨5, 1⟩).mono ?_; rintro e w2 ⟨E2, A2, c2, rs2, os2, rfl, hl2, hs2, hi2, hb2, f2, hd2⟩))
  obtain ⟨rfl, rfl⟩ := diffA hd2
  obtain ⟨g2, o2, rfl, a1, a2, a3⟩ := opOne hl2 hs2 hi2
  have F2 := f1.step0 f2
  clear hd2 hi2 hs2 hl2 hb2 s1 f1 f2 a3
  go_upto_region 3 with (first
    | (go_at_call 17; refine (one_any _).mono ?_; rintro e w3 ⟨g3, rfl, s3, f3⟩)
    | (go_at_call 14; refine (diff_any w3 (some ⟨g3, 0, none⟩) none 1 0 1 0 [r1] [] [x1] [] rfl rfl s3 (Sl.nil _ _) (in1 _) (in0 _) (by decide) (by decide) hb1 hb0 ⟨5, 1⟩).mono ?_; rintro e w4 ⟨E4, A4, c4, rs4, os4, rfl, hl4, hs4, hi4, hb4, f4, hd4⟩))
  obtain ⟨rfl, rfl⟩ := diffB hd4
  obtain ⟨g4, o4, rfl, b1, b2, b3⟩ := opOne hl4 hs4 hi4
  have k1 := cell_fr0 (cell_fr0 a1 f3) f4
  have k2 := cell_fr0 (cell_fr0 a2 f3) f4
  have F4 := (F2.step0 f3).step0 f4
  clear hd4 hi4 hs4 hl4 hb4 s3 f3 f4 b1 b2 a1 a2 F2
  have hk1 : oA.Kind = 1 := rfl
  have hk2 : oA.At.T = 5 := rfl
  have hk3 : oB.Parent = trS := rfl
  rw [hk1] at k1
  rw [hk2] at k2
  rw [hk3] at b3
  simp only [List.length_cons, List.length_nil]
  have hq : (str [97]).toList = [97] := str_toList [97]
  have hq2 : trS = (⟨0, 1⟩ : St) := rfl
  have k5 : True := trivial
  have k6 : True := trivial
  have k7 : True := trivial
  have k8 : True := trivial
  have k9 : True := trivial
  go_wp2_with (first
    | (go_at_call 17; have _t := k5; refine (one_any _).mono ?_; rintro e w5 ⟨g5, rfl, s5, f5⟩; clear k5 _t)
    | (go_at_call 12; refine (path_any w5 (some ⟨g5, 0, none⟩) 1 1 [r1] [x1] rfl s5 (in1 _) tree1 ⟨1, 1⟩ (by decide)).mono ?_; rintro e w6 ⟨rfl, f6⟩; rw [path1])
    | (go_at_call 17; have _t := k6; refine (one_any _).mono ?_; rintro e w7 ⟨g7, rfl, s7, f7⟩; clear k6 _t)
    | (go_at_call 17; have _t := k7; refine (one_any _).mono ?_; rintro e w8 ⟨g8, rfl, s8, f8⟩; clear k7 _t)
    | (go_at_call 10; have _t := k8; refine (alike_any w8 (some ⟨g7, 0, none⟩) (some ⟨g8, 0, none⟩) 1 1 1 1 [r1] [r1] [x1] [x1] rfl rfl (s7.fr0 f8) s8 (in1 _) (in1 _) (by decide) (by decide) (by decide) (by decide) hb1 hb1).mono ?_; rintro e w9 ⟨rfl, f9⟩; rw [alike1]; clear k8 _t)
    | (go_at_call 17; have _t := k9; refine (one_any _).mono ?_; rintro e w10 ⟨g10, rfl, s10, f10⟩; clear k9 _t)
    | (go_at_call 10; refine (alike_any w10 (some ⟨g10, 0, none⟩) none 1 0 1 0 [r1] [] [x1] [] rfl rfl s10 (Sl.nil _ _) (in1 _) (in0 _) (by decide) (by decide) (by decide) (by decide) hb1 hb0).mono ?_; rintro e w11 ⟨rfl, f11⟩; rw [alike0])
    | (go_at_call 17; refine (one_any _).mono ?_; rintro e w12 ⟨g12, rfl, s12, f12⟩)
    | (go_at_call 8; go_loud (refine (alive_d w12 (some ⟨g12, 0, none⟩) 1 1 [r1] [x1] rfl s12 (by decide) (in1 _) (by decide) hb1).mono ?_; rintro e w13 ⟨A13, c13, ls13, rfl, s13, h13, f13⟩; have hl13 : ls13.length = 1 := h13.len; rw [hl13])))
  go_ret
  exact ⟨rfl, ((((((((F4.step0 f5).step0 f6).step0 f7).step0 f8).step0 f9).step0 f10).step0 f11).step0 f12).step0 f13⟩
end Go.Proofs.Ytefcalkbfaefgaa
