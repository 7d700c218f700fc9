/- Walks of the laws ObjChanges, ObjDirs, ObjReads. -/
import Derived.Test.YtejkfekpgbmdiaaGreatLawLbl
namespace Go.Proofs.YtejkfekpgbmdiaaGreat
open Go.RowKit
set_option linter.unusedVariables false
set_option linter.unusedSimpArgs false

theorem changeT_any (w : World) (A : Option Addr) (c n : Nat) (l : List UInt8) (hn : l.length = n) (hs : Sl w A (bv l)) (hcap : l.length ≤ c) (hb : l.length ≤ 140737488355328) (x : Chg) (h : rdCh l = some x) :
    Calls Tryz.prog 25 #[.slice A n c] w fun e w' => ∃ r rs, e = .returned (.tuple #[.agg (codC.A r), .int .i64 0]) ∧ CgIn w' r rs x ∧ Fr noB w w' := by
  refine (change_any w A c n l hn hs hcap hb).mono ?_
  rintro e w' ⟨r, rs, rfl, f, _, h2⟩
  rw [h]
  exact ⟨r, rs, rfl, (h2 x h).1, f⟩
theorem dirT_any (w : World) (A : Option Addr) (c n : Nat) (l : List UInt8) (hn : l.length = n) (hs : Sl w A (bv l)) (hcap : l.length ≤ c) (hb : l.length ≤ 140737488355328) (x : List It) (h : rdDr l = some x) :
    Calls Tryz.prog 17 #[.slice A n c] w fun e w' => ∃ B d rs, e = .returned (.tuple #[.slice B rs.length d, .int .i64 0]) ∧ Sl w' B (codT.row rs) ∧ ItsIn w' rs x ∧ Fr noB w w' := by
  refine (dir_any w A c n l hn hs hcap hb).mono ?_
  rintro e w' ⟨B, d, rs, rfl, f, h1, h2⟩
  rw [h] at h2 ⊢
  exact ⟨B, d, rs, rfl, Sl.own h1, h2.its, f⟩
set_option maxRecDepth 100000 in
set_option maxHeartbeats 4000000 in
theorem changesL_any (w : World) (r : CgW) (rs : List OpW) (c : Chg) (h : CgIn w r rs c) : Calls Tryz.prog 5 #[.agg (codC.A r)] w (Gives w (.bool true)) := by
  have f0 : Fr noB w (w.alloc (.cells (codC.A r) 47)) := (Fr.refl noB w).alloc _
  have q0 := Cod.rd_new (C := codC) w 47 r
  replace h := h.fr f0
  go_enter Tryz.func5, Tryz.ntmps5
  go_upto_region 3 with (go_at_call 9; refine (alive_any _).mono ?_; rintro e w1 ⟨rfl, f1⟩)
  replace q0 := Cod.rd_fr0 q0 f1
  replace f0 := f0.step0 f1
  replace h := h.fr f1
  generalize w.heap.size = P at q0 ⊢
  clear f1
  by_cases hr : rightCh c = true
  · have hP : putCh c = some (chB c) := by unfold putCh; rw [if_pos hr]
    have hRt := Rt.ch hr
    have hK := (kind_ch hRt).1
    have hL := chB_len hr
    obtain ⟨b, hb⟩ : ∃ b, chB c = b := ⟨_, rfl⟩
    rw [hb] at hP hRt hK hL
    obtain ⟨L, hLk⟩ : ∃ L, linksO b = L := ⟨_, rfl⟩
    have hLB : L.length ≤ 140737488355328 := by rw [← hLk]; exact links_bd b
    have HR := Lib.hid hr
    have HB := Lib.hid hb
    have HP := Lib.hid hP
    have HRt := Lib.hid hRt
    have HK := Lib.hid hK
    have HL := Lib.hid hL
    have HLK := Lib.hid hLk
    have HLB := Lib.hid hLB
    clear hr hb hP hRt hK hL hLk hLB
    go_upto_region 4 with (go_at_call 23; refine (putChange_any _ r rs c h).mono ?_; intro e w2 hp; obtain ⟨A2, c2, rfl, hs2, f2, hc2, _⟩ := hp.some (b := b) (n := b.length) HP.out rfl; clear hp)
    replace q0 := Cod.rd_fr0 q0 f2
    replace f0 := f0.step0 f2
    replace h := h.fr f2
    go_upto_region 6 with (go_at_call 24; refine (r4change_any _ r rs c h).mono ?_; rintro e w3 ⟨rfl, f3⟩; rw [HR.out])
    replace q0 := Cod.rd_fr0 q0 f3
    replace f0 := f0.step0 f3
    replace hs2 := hs2.fr0 f3
    replace h := h.fr f3
    clear f2 f3
    have hb1 : b.length ≤ 140737488355328 := by have := HL.out; omega
    go_upto_region 7 with (go_at_call 25; refine (changeT_any _ A2 c2 b.length b rfl hs2 hc2 hb1 c HRt.out).mono ?_; rintro e w4 ⟨x, xs, rfl, hx, f4⟩)
    have fa : Fr noB w4 (w4.alloc (codC.o x)) := (Fr.refl noB w4).alloc _
    have q5 := Cod.rd_new' (C := codC) w4 x
    replace q0 := Cod.rd_fr0 (Cod.rd_fr0 q0 f4) fa
    replace f0 := (f0.step0 f4).step0 fa
    replace hs2 := (hs2.fr0 f4).fr0 fa
    replace h := (h.fr f4).fr fa
    replace hx := hx.fr fa
    clear f4 fa
    generalize w4.alloc (codC.o x) = W4 at q0 q5 f0 hs2 h hx ⊢
    generalize w4.heap.size = P5 at q5 ⊢
    go_wp2_with (first
      | (go_at_call 26; refine (r4putchange_z _ r rs c h HR.out b HB.out).mono ?_; rintro e w5 ⟨A5, c5, rfl, hs5, f5, hc5⟩; replace hs2 := hs2.fr0 f5; replace h := h.fr f5; replace hx := hx.fr f5; replace q0 := Cod.rd_fr0 q0 f5; replace q5 := Cod.rd_fr0 q5 f5; replace f0 := f0.step0 f5)
      | (go_at_call 12; refine (same_y _ A2 A5 c2 c5 b.length b.length b b rfl rfl hs2 hs5 hb1 rfl).mono ?_; rintro e w6 ⟨rfl, f6⟩; replace hs2 := hs2.fr0 f6; replace h := h.fr f6; replace hx := hx.fr f6; replace q0 := Cod.rd_fr0 q0 f6; replace q5 := Cod.rd_fr0 q5 f6; replace f0 := f0.step0 f6)
      | (go_at_call 27; refine (same_change _ x r xs rs c hx h).mono ?_; rintro e w11 ⟨rfl, f11⟩; replace hs2 := hs2.fr0 f11; replace f0 := f0.step0 f11)
      | (go_at_call 14; refine (kind_z _ A2 c2 b.length b rfl hs2 hc2 hb1 3 3 HK.out rfl).mono ?_; rintro e w7 ⟨rfl, f7⟩; replace hs2 := hs2.fr0 f7; replace f0 := f0.step0 f7)
      | (go_at_call 21; refine (links_len _ A2 c2 b.length b rfl hs2 hc2 hb1 L HLK.out).mono ?_; rintro e w8 ⟨A8, c8, rfl, hs8, f8⟩; replace hs2 := hs2.fr0 f8; replace f0 := f0.step0 f8)
      | (go_at_call 22; refine (r4links_len _ A2 c2 b.length b rfl hs2 hc2 hb1 L HLK.out).mono ?_; rintro e w9 ⟨A9, c9, rfl, hs9, f9⟩; replace hs8 := hs8.fr0 f9; replace f0 := f0.step0 f9)
      | (go_at_call 20; refine (same_ids _ A8 A9 c8 c9 L.length L.length L rfl rfl hs8 hs9 HLB.out).mono ?_; rintro e w10 ⟨rfl, f10⟩; replace f0 := f0.step0 f10))
    go_ret
    exact ⟨rfl, f0⟩
  · have hr' : rightCh c = false := by simpa using hr
    have hP : putCh c = none := by unfold putCh; rw [if_neg hr]
    have HR := Lib.hid hr'
    have HP := Lib.hid hP
    clear hr hr' hP
    go_upto_region 4 with (go_at_call 23; refine (putChange_any _ r rs c h).mono ?_; intro e w2 hp; obtain ⟨A2, c2, rfl, f2⟩ := hp.no HP.out; clear hp)
    replace q0 := Cod.rd_fr0 q0 f2
    replace f0 := f0.step0 f2
    replace h := h.fr f2
    go_wp2_with (go_at_call 24; refine (r4change_any _ r rs c h).mono ?_; rintro e w3 ⟨rfl, f3⟩; rw [HR.out])
    go_ret
    exact ⟨rfl, f0.step0 f3⟩
theorem drB_few {l : List It} (h : rightDr l = true) : (drB l).length ≤ 100000000 := by
  simp only [rightDr, Bool.and_eq_true, decide_eq_true_eq, List.all_eq_true] at h
  obtain ⟨⟨h1, h2⟩, h3⟩ := h
  have a1 := numB_length l.length (by omega)
  have a7 := flat_le itB 60000 l (fun o ho => itB_len' (h2 o ho))
  unfold drB
  simp only [List.length_cons, List.length_append, List.cons_append]
  omega
set_option maxRecDepth 100000 in
set_option maxHeartbeats 4000000 in
theorem dirsL_any (w : World) (A0 : Option Addr) (c0 n0 : Nat) (rs : List ItW) (xs : List It) (hn : rs.length = n0) (hsl : Sl w A0 (codT.row rs)) (h : ItsIn w rs xs) (hbd : rs.length ≤ 140737488355328) : Calls Tryz.prog 4 #[.slice A0 n0 c0] w (Gives w (.bool true)) := by
  have HN := Lib.hid hn
  have hlx := h.len
  have hn1 : n0 = xs.length := by omega
  have HN1 := Lib.hid hn1
  clear hn hlx hn1
  go_enter Tryz.func4, Tryz.ntmps4
  go_upto_region 3 with (go_at_call 9; refine (alive_any _).mono ?_; rintro e w1 ⟨rfl, f0⟩)
  replace h := h.fr f0
  replace hsl := hsl.fr0 f0
  by_cases hbig : 1100 < n0
  · have i1 : (1100 : Int) < (n0 : Int) := by omega
    go_wp2_with fail
    go_ret
    exact ⟨rfl, f0⟩
  have i1 : ¬ (1100 : Int) < (n0 : Int) := by omega
  have hxb : xs.length ≤ 140737488355328 := by have := HN1.out; omega
  by_cases hr : rightDr xs = true
  · have hP : putDr xs = some (drB xs) := by unfold putDr; rw [if_pos hr]
    have hRt := Rt.dr hr
    have hK := (kind_dr hRt).1
    have hL := drB_few hr
    obtain ⟨b, hb⟩ : ∃ b, drB xs = b := ⟨_, rfl⟩
    rw [hb] at hP hRt hK hL
    obtain ⟨L, hLk⟩ : ∃ L, linksO b = L := ⟨_, rfl⟩
    have hLB : L.length ≤ 140737488355328 := by rw [← hLk]; exact links_bd b
    have HR := Lib.hid hr
    have HB := Lib.hid hb
    have HP := Lib.hid hP
    have HRt := Lib.hid hRt
    have HK := Lib.hid hK
    have HLK := Lib.hid hLk
    have HLB := Lib.hid hLB
    have hb1 : b.length ≤ 140737488355328 := by omega
    clear hr hb hP hRt hK hL hLk hLB hbig
    go_upto_region 6 with (go_at_call 15; refine (putDir_any _ A0 c0 n0 rs xs HN.out hsl hbd h).mono ?_; intro e w2 hp; obtain ⟨A2, c2, rfl, hs2, f2, hc2, _⟩ := hp.some (b := b) (n := b.length) HP.out rfl; clear hp)
    replace f0 := f0.step0 f2
    replace h := h.fr f2
    replace hsl := hsl.fr0 f2
    go_upto_region 8 with (go_at_call 16; refine (r4dir_any _ A0 c0 n0 rs xs HN.out hsl hbd h).mono ?_; rintro e w3 ⟨rfl, f3⟩; rw [HR.out])
    replace f0 := f0.step0 f3
    replace hs2 := hs2.fr0 f3
    replace h := h.fr f3
    replace hsl := hsl.fr0 f3
    clear f2 f3
    go_upto_region 9 with (go_at_call 17; refine (dirT_any _ A2 c2 b.length b rfl hs2 hc2 hb1 xs HRt.out).mono ?_; rintro e w4 ⟨A4, c4, qs, rfl, hql, hq, f4⟩)
    replace f0 := f0.step0 f4
    replace hs2 := hs2.fr0 f4
    replace h := h.fr f4
    replace hsl := hsl.fr0 f4
    clear f4
    go_wp2_with (first
      | (go_at_call 18; refine (r4putdir_z _ A0 c0 n0 rs xs HN.out hsl hbd h HR.out b HB.out).mono ?_; rintro e w5 ⟨A5, c5, rfl, hs5, f5, hc5⟩; replace hs2 := hs2.fr0 f5; replace h := h.fr f5; replace hsl := hsl.fr0 f5; replace hq := hq.fr f5; replace hql := hql.fr0 f5; replace f0 := f0.step0 f5)
      | (go_at_call 12; refine (same_y _ A2 A5 c2 c5 b.length b.length b b rfl rfl hs2 hs5 hb1 rfl).mono ?_; rintro e w6 ⟨rfl, f6⟩; replace hs2 := hs2.fr0 f6; replace h := h.fr f6; replace hsl := hsl.fr0 f6; replace hq := hq.fr f6; replace hql := hql.fr0 f6; replace f0 := f0.step0 f6)
      | (go_at_call 19; refine (same_dir _ A4 A0 c4 c0 qs.length n0 qs rs xs rfl HN.out hql hsl hq h hxb).mono ?_; rintro e w11 ⟨rfl, f11⟩; replace hs2 := hs2.fr0 f11; replace f0 := f0.step0 f11)
      | (go_at_call 14; refine (kind_z _ A2 c2 b.length b rfl hs2 hc2 hb1 2 2 HK.out rfl).mono ?_; rintro e w7 ⟨rfl, f7⟩; replace hs2 := hs2.fr0 f7; replace f0 := f0.step0 f7)
      | (go_at_call 21; refine (links_len _ A2 c2 b.length b rfl hs2 hc2 hb1 L HLK.out).mono ?_; rintro e w8 ⟨A8, c8, rfl, hs8, f8⟩; replace hs2 := hs2.fr0 f8; replace f0 := f0.step0 f8)
      | (go_at_call 22; refine (r4links_len _ A2 c2 b.length b rfl hs2 hc2 hb1 L HLK.out).mono ?_; rintro e w9 ⟨A9, c9, rfl, hs9, f9⟩; replace hs8 := hs8.fr0 f9; replace f0 := f0.step0 f9)
      | (go_at_call 20; refine (same_ids _ A8 A9 c8 c9 L.length L.length L rfl rfl hs8 hs9 HLB.out).mono ?_; rintro e w10 ⟨rfl, f10⟩; replace f0 := f0.step0 f10))
    go_ret
    exact ⟨rfl, f0⟩
  · have hr' : rightDr xs = false := by simpa using hr
    have hP : putDr xs = none := by unfold putDr; rw [if_neg hr]
    have HR := Lib.hid hr'
    have HP := Lib.hid hP
    clear hr hr' hP hbig
    go_upto_region 6 with (go_at_call 15; refine (putDir_any _ A0 c0 n0 rs xs HN.out hsl hbd h).mono ?_; intro e w2 hp; obtain ⟨A2, c2, rfl, f2⟩ := hp.no HP.out; clear hp)
    replace f0 := f0.step0 f2
    replace h := h.fr f2
    replace hsl := hsl.fr0 f2
    go_wp2_with (go_at_call 16; refine (r4dir_any _ A0 c0 n0 rs xs HN.out hsl hbd h).mono ?_; rintro e w3 ⟨rfl, f3⟩; rw [HR.out])
    go_ret
    exact ⟨rfl, f0.step0 f3⟩
theorem dirsA_any (w : World) (A0 : Option Addr) (c0 : Nat) (rs0 : List ItW) (xs0 : List It) (hs : Sl w A0 (codT.row rs0)) (hb : rs0.length ≤ 140737488355328) (hc : rs0.length ≤ c0) (hin : ItsIn w rs0 xs0) :
    Calls Tryz.prog 4 #[.slice A0 rs0.length c0] w (Gives w (.bool true)) := dirsL_any w A0 c0 rs0.length rs0 xs0 rfl hs hin hb
/-! ObjReads -/
def zChg : Chg := ⟨[], 0, 0, [], zID, []⟩
theorem cgZ (w : World) : CgIn w zCgW [] zChg := ⟨rfl, rfl, rfl, rfl, rfl, Sl.nil _ _, rfl, Sl.nil _ _, ⟨rfl, fun i h => absurd h (by simp)⟩, by simp [zChg], by simp, by simp [zCgW]⟩
theorem changeR_any (w : World) (A : Option Addr) (c n : Nat) (l : List UInt8) (hn : l.length = n) (hs : Sl w A (bv l)) (hcap : l.length ≤ c) (hb : l.length ≤ 140737488355328) (b : Bool) (h : (rdCh l).isSome = b) :
    Calls Tryz.prog 25 #[.slice A n c] w fun e w' => ∃ r rs, e = .returned (.tuple #[.agg (codC.A r), .int .i64 (if b then 0 else 20)]) ∧ CgIn w' r rs ((rdCh l).getD zChg) ∧ Fr noB w w' := by
  subst h
  refine (change_any w A c n l hn hs hcap hb).mono ?_
  rintro e w' ⟨r, rs, rfl, f, h1, h2⟩
  cases hx : rdCh l with
  | none =>
    rw [h1 hx]
    exact ⟨zCgW, [], rfl, cgZ w', f⟩
  | some x => exact ⟨r, rs, rfl, (h2 x hx).1, f⟩
theorem r4chR_any (w : World) (A : Option Addr) (c n : Nat) (l : List UInt8) (hn : l.length = n) (hs : Sl w A (bv l)) (hcap : l.length ≤ c) (hb : l.length ≤ 140737488355328) (b : Bool) (h : (rdCh l).isSome = b) :
    Calls Tryz.prog 33 #[.slice A n c] w fun e w' => ∃ r rs, e = .returned (.tuple #[.agg (codC.A r), .bool b]) ∧ CgIn w' r rs ((rdCh l).getD zChg) ∧ Fr noB w w' := by
  subst h
  refine (r4ch_any w A c n l hn hs hcap hb).mono ?_
  rintro e w' ⟨r, rs, rfl, f, h1, h2⟩
  cases hx : rdCh l with
  | none =>
    rw [h1 hx]
    exact ⟨zCgW, [], rfl, cgZ w', f⟩
  | some x => exact ⟨r, rs, rfl, (h2 x hx).1, f⟩
theorem dirR_any (w : World) (A : Option Addr) (c n : Nat) (l : List UInt8) (hn : l.length = n) (hs : Sl w A (bv l)) (hcap : l.length ≤ c) (hb : l.length ≤ 140737488355328) (b : Bool) (h : (rdDr l).isSome = b) :
    Calls Tryz.prog 17 #[.slice A n c] w fun e w' => ∃ B d rs, e = .returned (.tuple #[.slice B rs.length d, .int .i64 (if b then 0 else 20)]) ∧ Sl w' B (codT.row rs) ∧ ItsIn w' rs (drL l) ∧ Fr noB w w' := by
  subst h
  refine (dir_any w A c n l hn hs hcap hb).mono ?_
  rintro e w' ⟨B, d, rs, rfl, f, h1, h2⟩
  exact ⟨B, d, rs, rfl, Sl.own h1, h2.its, f⟩
theorem r4drR_any (w : World) (A : Option Addr) (c n : Nat) (l : List UInt8) (hn : l.length = n) (hs : Sl w A (bv l)) (hcap : l.length ≤ c) (hb : l.length ≤ 140737488355328) (b : Bool) (h : (rdDr l).isSome = b) :
    Calls Tryz.prog 32 #[.slice A n c] w fun e w' => ∃ B d rs, e = .returned (.tuple #[.slice B rs.length d, .bool b]) ∧ Sl w' B (codT.row rs) ∧ ItsIn w' rs (drL l) ∧ Fr noB w w' := by
  subst h
  refine (r4dr_any w A c n l hn hs hcap hb).mono ?_
  rintro e w' ⟨B, d, rs, rfl, f, h1, h2⟩
  exact ⟨B, d, rs, rfl, Sl.own h1, h2.its, f⟩
theorem labelR_any (w : World) (A : Option Addr) (c n : Nat) (l : List UInt8) (hn : l.length = n) (hs : Sl w A (bv l)) (hcap : l.length ≤ c) (hb : l.length ≤ 140737488355328) (b : Bool) (h : (rdLb l).isSome = b) (x : Lbl) (hx : (rdLb l).getD zLbl = x) :
    Calls Tryz.prog 30 #[.slice A n c] w (Gives w (.tuple #[.agg (codL.A x), .int .i64 (if b then 0 else 20)])) := by
  subst h hx
  exact label_any w A c n l hn hs hcap hb
theorem r4lbR_any (w : World) (A : Option Addr) (c n : Nat) (l : List UInt8) (hn : l.length = n) (hs : Sl w A (bv l)) (hcap : l.length ≤ c) (hb : l.length ≤ 140737488355328) (b : Bool) (h : (rdLb l).isSome = b) (x : Lbl) (hx : (rdLb l).getD zLbl = x) :
    Calls Tryz.prog 34 #[.slice A n c] w (Gives w (.tuple #[.agg (codL.A x), .bool b])) := by
  subst h hx
  exact r4lb_any w A c n l hn hs hcap hb
theorem r4kind_z (w : World) (A : Option Addr) (c n : Nat) (l : List UInt8) (hn : l.length = n) (hs : Sl w A (bv l)) (hcap : l.length ≤ c) (hb : l.length ≤ 140737488355328) (k : Nat) (hk : kindO l = k) : Calls Tryz.prog 35 #[.slice A n c] w (Gives w (.int .i64 (k : Int))) := by
  subst hk; exact r4kind_any w A c n l hn hs hcap hb
set_option maxRecDepth 100000 in
set_option maxHeartbeats 8000000 in
theorem readsL_any (w : World) (A0 : Option Addr) (c0 : Nat) (l : List UInt8) (hs : Sl w A0 (bv l)) (hc : l.length ≤ c0) (hb : l.length ≤ 140737488355328) :
    Calls Tryz.prog 7 #[.slice A0 l.length c0] w (Gives w (.bool true)) := by
  obtain ⟨b1, h1⟩ : ∃ b, (rdDr l).isSome = b := ⟨_, rfl⟩
  obtain ⟨b2, h2⟩ : ∃ b, (rdCh l).isSome = b := ⟨_, rfl⟩
  obtain ⟨b3, h3⟩ : ∃ b, (rdLb l).isSome = b := ⟨_, rfl⟩
  obtain ⟨x, hx⟩ : ∃ b, (rdLb l).getD zLbl = b := ⟨_, rfl⟩
  obtain ⟨k, hk⟩ : ∃ b, kindO l = b := ⟨_, rfl⟩
  obtain ⟨L, hLk⟩ : ∃ L, linksO l = L := ⟨_, rfl⟩
  have hLB : L.length ≤ 140737488355328 := by rw [← hLk]; exact links_bd l
  have hdb : (drL l).length ≤ 140737488355328 := by have := (drL_ok l).1; omega
  have H1 := Lib.hid h1
  have H2 := Lib.hid h2
  have H3 := Lib.hid h3
  have HX := Lib.hid hx
  have HK := Lib.hid hk
  have HLK := Lib.hid hLk
  have HLB := Lib.hid hLB
  have HDB := Lib.hid hdb
  clear h1 h2 h3 hx hk hLk hLB hdb
  go_enter Tryz.func7, Tryz.ntmps7
  go_upto_region 3 with (go_at_call 9; refine (alive_any _).mono ?_; rintro e w1 ⟨rfl, f0⟩)
  replace hs := hs.fr0 f0
  by_cases hbig : 20000 < l.length
  · have i1 : (20000 : Int) < (l.length : Int) := by omega
    go_wp2_with fail
    go_ret
    exact ⟨rfl, f0⟩
  have i1 : ¬ (20000 : Int) < (l.length : Int) := by omega
  clear hbig
  go_upto_region 6 with (go_at_call 17; refine (dirR_any _ A0 c0 l.length l rfl hs hc hb b1 H1.out).mono ?_; rintro e w2 ⟨A2, c2, rs, rfl, sr, ir, f2⟩)
  replace f0 := f0.step0 f2
  replace hs := hs.fr0 f2
  clear f2
  go_upto_region 7 with (go_at_call 25; refine (changeR_any _ A0 c0 l.length l rfl hs hc hb b2 H2.out).mono ?_; rintro e w3 ⟨r3, rs3, rfl, ic, f3⟩)
  have fa : Fr noB w3 (w3.alloc (codC.o r3)) := (Fr.refl noB w3).alloc _
  have q3 := Cod.rd_new' (C := codC) w3 r3
  replace f3 := f3.step0 fa
  replace ic := ic.fr fa
  replace f0 := f0.step0 f3
  replace hs := hs.fr0 f3
  replace sr := sr.fr0 f3
  replace ir := ir.fr f3
  clear f3 fa
  generalize w3.alloc (codC.o r3) = W3 at f0 hs sr ir ic q3 ⊢
  generalize w3.heap.size = N3 at q3 ⊢
  go_upto_region 8 with (go_at_call 30; refine (labelR_any _ A0 c0 l.length l rfl hs hc hb b3 H3.out x HX.out).mono ?_; rintro e w4 ⟨rfl, f4⟩)
  have fa : Fr noB w4 (w4.alloc (codL.o x)) := (Fr.refl noB w4).alloc _
  have q4 := Cod.rd_new' (C := codL) w4 x
  replace f4 := f4.step0 fa
  replace ic := ic.fr f4
  replace q3 := Cod.rd_fr0 q3 f4
  replace f0 := f0.step0 f4
  replace hs := hs.fr0 f4
  replace sr := sr.fr0 f4
  replace ir := ir.fr f4
  clear f4 fa
  generalize w4.alloc (codL.o x) = W4 at f0 hs sr ir ic q3 q4 ⊢
  generalize w4.heap.size = N4 at q4 ⊢
  go_upto_region 9 with (go_at_call 32; refine (r4drR_any _ A0 c0 l.length l rfl hs hc hb b1 H1.out).mono ?_; rintro e w5 ⟨A5, c5, qs, rfl, sq, iq, f5⟩)
  replace ic := ic.fr f5
  replace q3 := Cod.rd_fr0 q3 f5
  replace q4 := Cod.rd_fr0 q4 f5
  replace f0 := f0.step0 f5
  replace hs := hs.fr0 f5
  replace sr := sr.fr0 f5
  replace ir := ir.fr f5
  clear f5
  go_upto_region 10 with (go_at_call 33; refine (r4chR_any _ A0 c0 l.length l rfl hs hc hb b2 H2.out).mono ?_; rintro e w6 ⟨r6, rs6, rfl, id, f6⟩)
  have fa : Fr noB w6 (w6.alloc (codC.o r6)) := (Fr.refl noB w6).alloc _
  have q6 := Cod.rd_new' (C := codC) w6 r6
  replace f6 := f6.step0 fa
  replace id := id.fr fa
  replace ic := ic.fr f6
  replace q3 := Cod.rd_fr0 q3 f6
  replace q4 := Cod.rd_fr0 q4 f6
  replace sq := sq.fr0 f6
  replace iq := iq.fr f6
  replace f0 := f0.step0 f6
  replace hs := hs.fr0 f6
  replace sr := sr.fr0 f6
  replace ir := ir.fr f6
  clear f6 fa
  generalize w6.alloc (codC.o r6) = W6 at f0 hs sr ir sq iq ic id q3 q4 q6 ⊢
  generalize w6.heap.size = N6 at q6 ⊢
  go_upto_region 11 with (go_at_call 34; refine (r4lbR_any _ A0 c0 l.length l rfl hs hc hb b3 H3.out x HX.out).mono ?_; rintro e w7 ⟨rfl, f7⟩)
  have fa : Fr noB w7 (w7.alloc (codL.o x)) := (Fr.refl noB w7).alloc _
  have q7 := Cod.rd_new' (C := codL) w7 x
  replace f7 := f7.step0 fa
  replace id := id.fr f7
  replace ic := ic.fr f7
  replace q3 := Cod.rd_fr0 q3 f7
  replace q4 := Cod.rd_fr0 q4 f7
  replace q6 := Cod.rd_fr0 q6 f7
  replace sq := sq.fr0 f7
  replace iq := iq.fr f7
  replace f0 := f0.step0 f7
  replace hs := hs.fr0 f7
  replace sr := sr.fr0 f7
  replace ir := ir.fr f7
  clear f7 fa
  generalize w7.alloc (codL.o x) = W7 at f0 hs sr ir sq iq ic id q3 q4 q6 q7 ⊢
  generalize w7.heap.size = N7 at q7 ⊢
  cases b1 <;> cases b2 <;> cases b3
  all_goals
    clear H1 H2 H3
    go_upto_region 13 with fail
    go_wp2_with (first
      | (go_at_call 14; refine (kind_z _ A0 c0 l.length l rfl hs hc hb k k HK.out rfl).mono ?_; rintro e w8 ⟨rfl, f8⟩; replace hs := hs.fr0 f8; replace sr := sr.fr0 f8; replace ir := ir.fr f8; replace sq := sq.fr0 f8; replace iq := iq.fr f8; replace ic := ic.fr f8; replace id := id.fr f8; replace q3 := Cod.rd_fr0 q3 f8; replace q4 := Cod.rd_fr0 q4 f8; replace q6 := Cod.rd_fr0 q6 f8; replace q7 := Cod.rd_fr0 q7 f8; replace f0 := f0.step0 f8)
      | (go_at_call 35; refine (r4kind_z _ A0 c0 l.length l rfl hs hc hb k HK.out).mono ?_; rintro e w9 ⟨rfl, f9⟩; replace hs := hs.fr0 f9; replace sr := sr.fr0 f9; replace ir := ir.fr f9; replace sq := sq.fr0 f9; replace iq := iq.fr f9; replace ic := ic.fr f9; replace id := id.fr f9; replace q3 := Cod.rd_fr0 q3 f9; replace q4 := Cod.rd_fr0 q4 f9; replace q6 := Cod.rd_fr0 q6 f9; replace q7 := Cod.rd_fr0 q7 f9; replace f0 := f0.step0 f9)
      | (go_at_call 19; refine (same_dir _ A2 A5 c2 c5 rs.length qs.length rs qs (drL l) rfl rfl sr sq ir iq HDB.out).mono ?_; rintro e wa ⟨rfl, fA⟩; replace hs := hs.fr0 fA; replace ic := ic.fr fA; replace id := id.fr fA; replace q3 := Cod.rd_fr0 q3 fA; replace q4 := Cod.rd_fr0 q4 fA; replace q6 := Cod.rd_fr0 q6 fA; replace q7 := Cod.rd_fr0 q7 fA; replace f0 := f0.step0 fA)
      | (go_at_call 27; refine (same_change _ r3 r6 rs3 rs6 _ ic id).mono ?_; rintro e wb ⟨rfl, fB⟩; replace hs := hs.fr0 fB; replace q4 := Cod.rd_fr0 q4 fB; replace q7 := Cod.rd_fr0 q7 fB; replace f0 := f0.step0 fB)
      | (go_at_call 21; refine (links_len _ A0 c0 l.length l rfl hs hc hb L HLK.out).mono ?_; rintro e wc ⟨A8, c8, rfl, hs8, f8⟩; replace hs := hs.fr0 f8; replace f0 := f0.step0 f8)
      | (go_at_call 22; refine (r4links_len _ A0 c0 l.length l rfl hs hc hb L HLK.out).mono ?_; rintro e wd ⟨A9, c9, rfl, hs9, f9⟩; replace hs8 := hs8.fr0 f9; replace f0 := f0.step0 f9)
      | (go_at_call 20; refine (same_ids _ A8 A9 c8 c9 L.length L.length L rfl rfl hs8 hs9 HLB.out).mono ?_; rintro e we ⟨rfl, f10⟩; replace f0 := f0.step0 f10))
    go_ret
    exact ⟨rfl, f0⟩
end Go.Proofs.YtejkfekpgbmdiaaGreat
