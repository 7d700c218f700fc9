/- Stamps as values that the walk never looks into: contracts of stamp.Right, fixed, Cmp, get, put; obj.getAt, at. Parts of operations, items, commits, tags. -/
import Derived.Test.YtejkfekpgbmdiaaGreatCods
import Derived.Test.YtejkfekpgbmdiaaGreatRdrW
import Derived.Test.YtejkfekpgbmdiaaGreatRdrId
namespace Go.Proofs.YtejkfekpgbmdiaaGreat
open Go.RowKit
set_option linter.unusedVariables false
set_option linter.unusedSimpArgs false

theorem vS_eq (s : St) : (.agg (codS.A s) : Value) = encS s := by rw [Cod.A_eq]; rfl
theorem right_v (w : World) (s : St) : Calls Tryz.prog 99 #[.agg (codS.A s)] w (Gives w (.bool (rightS s))) := by rw [vS_eq]; exact right_any w s
theorem fixed_v (w : World) (s : St) : Calls Tryz.prog 139 #[.agg (codS.A s)] w (Gives w (.bool (fixedS s))) := by rw [vS_eq]; exact fixed_any w s
theorem scmp_v (w : World) (a b : St) : Calls Tryz.prog 84 #[.agg (codS.A a), .agg (codS.A b)] w (Gives w (.int .i64 (cmpS a b))) := by rw [vS_eq, vS_eq]; exact scmp_any w a b
/-! parts -/
theorem get2 (s : St) (l : List Value) (k : Nat) (h0 : l[k]? = some (.int .i64 s.T)) (h1 : l[k + 1]? = some (.int .i64 s.R)) : ∀ j v, (codS.cs s)[j]? = some v → l[k + j]? = some v := by
  intro j v h
  match j with
  | 0 => simp [codS, csS] at h; rw [← h]; exact h0
  | 1 => simp [codS, csS] at h; rw [← h]; exact h1
  | j + 2 => simp [codS, csS] at h
theorem getApp (x : ID) (l m : List Value) (n : Nat) (hn : l.length = n) : ∀ j v, (bv x.1)[j]? = some v → (l ++ (bv x.1 ++ m))[n + j]? = some v := by
  intro j v h
  subst hn
  rw [List.getElem?_append_right (by omega), List.getElem?_append_left (by have := (List.getElem?_eq_some_iff.1 h).1; omega)]
  rw [Nat.add_sub_cancel_left]
  exact h
theorem getEnd (x : ID) (l m : List Value) (n : Nat) (hn : l.length + 32 = n) (i : Nat) : (l ++ (bv x.1 ++ m))[n + i]? = m[i]? := by
  subst hn
  rw [List.getElem?_append_right (by omega), List.getElem?_append_right (by rw [bv_length, x.2]; omega), bv_length, x.2]
  congr 1
  omega
structure OpAt (w : World) (b : Nat) (r : OpW) : Prop where
  kind : w.cell? ⟨b, 0, none⟩ = some (.int .i64 r.Kind)
  atT : w.cell? ⟨b, 1, none⟩ = some (.int .i64 r.At.T)
  atR : w.cell? ⟨b, 2, none⟩ = some (.int .i64 r.At.R)
  At : codS.rd w b 1 = some r.At
  node : codS.rd w b 3 = some r.Node
  parent : codS.rd w b 5 = some r.Parent
  name : w.cell? ⟨b, 7, none⟩ = some (.string (str r.Name))
  data : rdI w b 8 = some r.Data
  over : w.cell? ⟨b, 40, none⟩ = some (.slice r.A r.n r.c)
  self : codO.rd w b 0 = some r
def opL (r : OpW) : List Value := [.int .i64 r.Kind, .int .i64 r.At.T, .int .i64 r.At.R, .int .i64 r.Node.T, .int .i64 r.Node.R, .int .i64 r.Parent.T, .int .i64 r.Parent.R, .string (str r.Name)]
theorem opAt {w : World} {b : Nat} {r : OpW} (h : codO.rd w b 0 = some r) : OpAt w b r := by
  have e (k : Nat) {v : Value} (hv : (codO.cs r)[k]? = some v) := by simpa using Cod.rd_cell h k hv
  have s (k : Nat) {x : St} (hv : ∀ j v, (codS.cs x)[j]? = some v → (codO.cs r)[k + j]? = some v) := by simpa using Cod.rd_part (C' := codS) h k hv
  exact ⟨e 0 rfl, e 1 rfl, e 2 rfl, s 1 (get2 _ _ 1 rfl rfl), s 3 (get2 _ _ 3 rfl rfl), s 5 (get2 _ _ 5 rfl rfl), e 7 rfl,
    by simpa using Cod.rdI_part h 8 (getApp r.Data (opL r) _ 8 rfl), e 40 (getEnd r.Data (opL r) [.slice r.A r.n r.c] 40 rfl 0), h⟩
structure ItAt (w : World) (b : Nat) (r : ItW) : Prop where
  node : codS.rd w b 0 = some r.Node
  At : codS.rd w b 2 = some r.At
  name : w.cell? ⟨b, 4, none⟩ = some (.string (str r.Name))
  sub : rdI w b 5 = some r.Sub
  heads : w.cell? ⟨b, 37, none⟩ = some (.slice r.A r.n r.c)
  self : codT.rd w b 0 = some r
theorem itAt {w : World} {b : Nat} {r : ItW} (h : codT.rd w b 0 = some r) : ItAt w b r := by
  have e (k : Nat) {v : Value} (hv : (codT.cs r)[k]? = some v) := by simpa using Cod.rd_cell h k hv
  have s (k : Nat) {x : St} (hv : ∀ j v, (codS.cs x)[j]? = some v → (codT.cs r)[k + j]? = some v) := by simpa using Cod.rd_part (C' := codS) h k hv
  exact ⟨s 0 (get2 _ _ 0 rfl rfl), s 2 (get2 _ _ 2 rfl rfl), e 4 rfl,
    by simpa using Cod.rdI_part h 5 (getApp r.Sub [.int .i64 r.Node.T, .int .i64 r.Node.R, .int .i64 r.At.T, .int .i64 r.At.R, .string (str r.Name)] _ 5 rfl),
    e 37 (getEnd r.Sub [.int .i64 r.Node.T, .int .i64 r.Node.R, .int .i64 r.At.T, .int .i64 r.At.R, .string (str r.Name)] [.slice r.A r.n r.c] 37 rfl 0), h⟩
structure HdAt (w : World) (b : Nat) (r : Hd) : Prop where
  At : codS.rd w b 0 = some r.At
  data : rdI w b 2 = some r.Data
  self : codH.rd w b 0 = some r
theorem hdAt {w : World} {b : Nat} {r : Hd} (h : codH.rd w b 0 = some r) : HdAt w b r := by
  have s (k : Nat) {x : St} (hv : ∀ j v, (codS.cs x)[j]? = some v → (codH.cs r)[k + j]? = some v) := by simpa using Cod.rd_part (C' := codS) h k hv
  have g := getApp r.Data [.int .i64 r.At.T, .int .i64 r.At.R] [] 2 rfl
  rw [List.append_nil] at g
  exact ⟨s 0 (get2 _ _ 0 rfl rfl), by simpa using Cod.rdI_part h 2 g, h⟩
structure CgAt (w : World) (b : Nat) (r : CgW) : Prop where
  parents : w.cell? ⟨b, 0, none⟩ = some (.slice r.PA r.pn r.pc)
  time : w.cell? ⟨b, 1, none⟩ = some (.int .i64 r.Time)
  R : w.cell? ⟨b, 2, none⟩ = some (.int .i64 r.R)
  ops : w.cell? ⟨b, 3, none⟩ = some (.slice r.OA r.on r.oc)
  tree : rdI w b 4 = some r.Tree
  msg : w.cell? ⟨b, 36, none⟩ = some (.string (str r.Msg))
  self : codC.rd w b 0 = some r
theorem cgAt {w : World} {b : Nat} {r : CgW} (h : codC.rd w b 0 = some r) : CgAt w b r := by
  have e (k : Nat) {v : Value} (hv : (codC.cs r)[k]? = some v) := by simpa using Cod.rd_cell h k hv
  exact ⟨e 0 rfl, e 1 rfl, e 2 rfl, e 3 rfl,
    by simpa using Cod.rdI_part h 4 (getApp r.Tree [.slice r.PA r.pn r.pc, .int .i64 r.Time, .int .i64 r.R, .slice r.OA r.on r.oc] _ 4 rfl),
    e 36 (getEnd r.Tree [.slice r.PA r.pn r.pc, .int .i64 r.Time, .int .i64 r.R, .slice r.OA r.on r.oc] [.string (str r.Msg)] 36 rfl 0), h⟩
structure LbAt (w : World) (b : Nat) (r : Lbl) : Prop where
  target : rdI w b 0 = some r.Target
  name : w.cell? ⟨b, 32, none⟩ = some (.string (str r.Name))
  msg : w.cell? ⟨b, 33, none⟩ = some (.string (str r.Msg))
  self : codL.rd w b 0 = some r
theorem lbAt {w : World} {b : Nat} {r : Lbl} (h : codL.rd w b 0 = some r) : LbAt w b r := by
  have e (k : Nat) {v : Value} (hv : (codL.cs r)[k]? = some v) := by simpa using Cod.rd_cell h k hv
  exact ⟨by simpa using Cod.rdI_part h 0 (getApp r.Target [] _ 0 rfl), e 32 (getEnd r.Target [] [.string (str r.Name), .string (str r.Msg)] 32 rfl 0), e 33 (getEnd r.Target [] [.string (str r.Name), .string (str r.Msg)] 32 rfl 1), h⟩
theorem OpAt.fr {w w' : World} {b : Nat} {r : OpW} (h : OpAt w b r) (f : Fr noB w w') : OpAt w' b r := opAt (Cod.rd_fr0 h.self f)
theorem ItAt.fr {w w' : World} {b : Nat} {r : ItW} (h : ItAt w b r) (f : Fr noB w w') : ItAt w' b r := itAt (Cod.rd_fr0 h.self f)
theorem HdAt.fr {w w' : World} {b : Nat} {r : Hd} (h : HdAt w b r) (f : Fr noB w w') : HdAt w' b r := hdAt (Cod.rd_fr0 h.self f)
theorem CgAt.fr {w w' : World} {b : Nat} {r : CgW} (h : CgAt w b r) (f : Fr noB w w') : CgAt w' b r := cgAt (Cod.rd_fr0 h.self f)
theorem LbAt.fr {w w' : World} {b : Nat} {r : Lbl} (h : LbAt w b r) (f : Fr noB w w') : LbAt w' b r := lbAt (Cod.rd_fr0 h.self f)
theorem rdSt_len (s : RS) : (rdSt s).2.1.length ≤ s.1.length := Nat.le_trans (rdNum_bd _ _).2 (rdNum_bd _ _).2
theorem stS_raw {w : World} {b : Nat} {y : St} (h : codS.bxd w b = some y) (t r : Int) : codS.stR w (.pointer (some ⟨b, 0, none⟩)) (.agg #[.int .i64 t, .int .i64 r]) = .ok .skip (codS.put w b ⟨t, r⟩) := by
  have := okS.stR_box h ⟨t, r⟩
  rw [show codS.v ⟨t, r⟩ = encS ⟨t, r⟩ from vS_eq _] at this
  exact this
theorem num_z (w : World) (p : Nat) (s : RS) (Q : Nat → Prop) (most : Nat) (m : Int) (hme : (most : Int) = m) (hm : most ≤ 4611686018427387904) (h : Rdr w p s Q) (hlen : s.1.length ≤ 140737488355328) (n : Nat) (s' : RS) (hh : rdNum most s = (n, s')) :
    Calls Tryz.prog 46 #[.pointer (some ⟨p, 0, none⟩), .int .i64 m] w (RdrTo w p (.int .i64 n) s' Q) := by subst hme; exact num_eq w p s Q most hm h hlen n s' hh
set_option maxRecDepth 100000 in
theorem sget_any (w : World) (p : Nat) (s : RS) (Q : Nat → Prop) (h : Rdr w p s Q) (hQw : ∀ b, Q b → b < w.heap.size) (hlen : s.1.length ≤ 140737488355328) :
    Calls Tryz.prog 105 #[.pointer (some ⟨p, 0, none⟩)] w (RdrOf w p (.agg (codS.A (rdSt s).1)) (rdSt s).2 Q) := by
  have f0 : Fr noB w (w.alloc (codS.o zSt)) := (Fr.refl noB w).alloc _
  have q0 : codS.bxd (w.alloc (codS.o zSt)) w.heap.size = some zSt := Cod.bxd_new _ _
  have lp := h.lt
  have h0 : Rdr (w.alloc (codS.o zSt)) p s Q := h.fr f0 (by simp [noB]) (fun _ _ => by simp [noB])
  have hpP : ¬ oneB p w.heap.size := fun e => by have : w.heap.size = p := e; omega
  have hb1 := rdNum_bd 1099511627776 s
  obtain ⟨t, s1, e1⟩ : ∃ t s1, rdNum 1099511627776 s = (t, s1) := ⟨_, _, rfl⟩
  obtain ⟨r, s2, e2⟩ : ∃ r s2, rdNum 65536 s1 = (r, s2) := ⟨_, _, rfl⟩
  have e3 : rdSt s = (⟨t, r⟩, s2) := by unfold rdSt; rw [e1]; simp only; rw [e2]
  rw [e1] at hb1
  simp only at hb1
  have E1 := Lib.hid e1
  have E2 := Lib.hid e2
  have E3 := Lib.hid e3
  have HB := Lib.hid hb1
  clear e1 e2 e3 hb1
  go_enter Tryz.func105, Tryz.ntmps105
  go_upto_region 1 with fail
  generalize w.alloc (codS.o zSt) = w0 at f0 q0 h0 ⊢
  have hPl : w.heap.size ≤ w.heap.size := Nat.le_refl _
  generalize hP : w.heap.size = P at q0 hpP hPl hQw ⊢
  go_wp2_with fail
  go_at_call 46
  refine (num_z w0 p s Q 1099511627776 1099511627776 rfl (by decide) h0 hlen t s1 E1.out).mono ?_
  rintro e w1 ⟨rfl, hr1, hf1⟩
  have q1 := Cod.bxd_fr q0 hf1 hpP
  go_wp2_with fail
  go_at_call 46
  refine (num_z w1 p s1 Q 65536 65536 rfl (by decide) hr1 (by have := HB.out; omega) r s2 E2.out).mono ?_
  rintro e w2 ⟨rfl, hr2, hf2⟩
  have q2 := Cod.bxd_fr q1 hf2 hpP
  have hst := okS.stR_box q2 ⟨(t : Int), (r : Int)⟩
  simp only [Cod.v] at hst
  obtain ⟨g1, g2, g3⟩ := Cod.put_fr q2 ⟨(t : Int), (r : Int)⟩
  have hr3 := hr2.fr g1 (fun e => hpP (by have : p = P := e; exact this.symm)) (fun b hb e => by have h1 := hQw b hb; have h2 : b = P := e; omega)
  have hbx := Cod.bxd_blk g3
  go_wp2_with fail
  refine bodyPost_ret (results_cell_row rfl _ _ P 69 _ _ _ (by rfl) hbx Tryz.underlying69 ?_ ?_) rfl ?_
  · rfl
  · rw [List.size_toArray, codS.len]; exact okS.info
  · refine ⟨?_, ?_, ?_⟩
    · rw [E3.out, Cod.A_eq]
    · rw [E3.out]; exact hr3
    · exact ((f0.any.trans hf1 (fun b _ h => h)).trans hf2 (fun b _ h => h)).step g1 (fun b hb => .inl (by have h2 : b = P := hb; omega))
set_option maxRecDepth 100000 in
theorem oget_any (w : World) (p : Nat) (s : RS) (Q : Nat → Prop) (h : Rdr w p s Q) (hQw : ∀ b, Q b → b < w.heap.size) (hlen : s.1.length ≤ 140737488355328) :
    Calls Tryz.prog 89 #[.pointer (some ⟨p, 0, none⟩)] w (RdrOf w p (.agg (codS.A (rdSt s).1)) (rdSt s).2 Q) := by
  have f0 : Fr noB w (w.alloc (codS.o zSt)) := (Fr.refl noB w).alloc _
  have q0 : codS.bxd (w.alloc (codS.o zSt)) w.heap.size = some zSt := Cod.bxd_new _ _
  have lp := h.lt
  have h0 : Rdr (w.alloc (codS.o zSt)) p s Q := h.fr f0 (by simp [noB]) (fun _ _ => by simp [noB])
  have hpP : ¬ oneB p w.heap.size := fun e => by have : w.heap.size = p := e; omega
  have hb1 := rdNum_bd 1099511627776 s
  obtain ⟨t, s1, e1⟩ : ∃ t s1, rdNum 1099511627776 s = (t, s1) := ⟨_, _, rfl⟩
  obtain ⟨r, s2, e2⟩ : ∃ r s2, rdNum 65536 s1 = (r, s2) := ⟨_, _, rfl⟩
  have e3 : rdSt s = (⟨t, r⟩, s2) := by unfold rdSt; rw [e1]; simp only; rw [e2]
  rw [e1] at hb1
  simp only at hb1
  have E1 := Lib.hid e1
  have E2 := Lib.hid e2
  have E3 := Lib.hid e3
  have HB := Lib.hid hb1
  clear e1 e2 e3 hb1
  go_enter Tryz.func89, Tryz.ntmps89
  go_upto_region 1 with fail
  generalize w.alloc (codS.o zSt) = w0 at f0 q0 h0 ⊢
  have hPl : w.heap.size ≤ w.heap.size := Nat.le_refl _
  generalize hP : w.heap.size = P at q0 hpP hPl hQw ⊢
  go_wp2_with fail
  go_at_call 46
  refine (num_z w0 p s Q 1099511627776 1099511627776 rfl (by decide) h0 hlen t s1 E1.out).mono ?_
  rintro e w1 ⟨rfl, hr1, hf1⟩
  have q1 := Cod.bxd_fr q0 hf1 hpP
  go_wp2_with fail
  go_at_call 46
  refine (num_z w1 p s1 Q 65536 65536 rfl (by decide) hr1 (by have := HB.out; omega) r s2 E2.out).mono ?_
  rintro e w2 ⟨rfl, hr2, hf2⟩
  have q2 := Cod.bxd_fr q1 hf2 hpP
  have hst := okS.stR_box q2 ⟨(t : Int), (r : Int)⟩
  simp only [Cod.v] at hst
  obtain ⟨g1, g2, g3⟩ := Cod.put_fr q2 ⟨(t : Int), (r : Int)⟩
  have hr3 := hr2.fr g1 (fun e => hpP (by have : p = P := e; exact this.symm)) (fun b hb e => by have h1 := hQw b hb; have h2 : b = P := e; omega)
  have hbx := Cod.bxd_blk g3
  go_wp2_with fail
  refine bodyPost_ret (results_cell_row rfl _ _ P 69 _ _ _ (by rfl) hbx Tryz.underlying69 ?_ ?_) rfl ?_
  · rfl
  · rw [List.size_toArray, codS.len]; exact okS.info
  · refine ⟨?_, ?_, ?_⟩
    · rw [E3.out, Cod.A_eq]
    · rw [E3.out]; exact hr3
    · exact ((f0.any.trans hf1 (fun b _ h => h)).trans hf2 (fun b _ h => h)).step g1 (fun b hb => .inl (by have h2 : b = P := hb; omega))
theorem stB_le (s : St) (hr : rightS s = true) : (stB s).length ≤ 20 := by
  simp only [rightS, Bool.and_eq_true, decide_eq_true_eq] at hr
  unfold stB
  rw [List.length_append]
  have h1 := numB_length s.T.toNat (by omega)
  have h2 := numB_length s.R.toNat (by omega)
  omega
end Go.Proofs.YtejkfekpgbmdiaaGreat
