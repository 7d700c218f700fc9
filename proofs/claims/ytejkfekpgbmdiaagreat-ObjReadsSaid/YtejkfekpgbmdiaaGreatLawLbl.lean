/- Walk of the law ObjLabels. -/
import Derived.Test.YtejkfekpgbmdiaaGreatRLk
namespace Go.Proofs.YtejkfekpgbmdiaaGreat
open Go.RowKit
set_option linter.unusedVariables false
set_option linter.unusedSimpArgs false

theorem labelT_any (w : World) (A : Option Addr) (c n : Nat) (l : List UInt8) (hn : l.length = n) (hs : Sl w A (bv l)) (hcap : l.length ≤ c) (hb : l.length ≤ 140737488355328) (x : Lbl) (h : rdLb l = some x) :
    Calls Tryz.prog 30 #[.slice A n c] w (Gives w (.tuple #[.agg (codL.A x), .int .i64 0])) := by
  refine (label_any w A c n l hn hs hcap hb).mono ?_
  rintro e w' ⟨rfl, f⟩
  rw [h]
  exact ⟨rfl, f⟩
theorem r4links_len (w : World) (A : Option Addr) (c n : Nat) (l : List UInt8) (hn : l.length = n) (hs : Sl w A (bv l)) (hcap : l.length ≤ c) (hb : l.length ≤ 140737488355328) (L : List ID) (hL : linksO l = L) :
    Calls Tryz.prog 22 #[.slice A n c] w fun e w' => ∃ B d, e = .returned (.slice B L.length d) ∧ Sl w' B (idc L) ∧ Fr noB w w' := by
  subst hL
  exact r4links_any w A c n l hn hs hcap hb
theorem links_bd (l : List UInt8) : (linksO l).length ≤ 140737488355328 := by
  have h1 := (linksQ (b := l)).len
  have h2 : (linkL l).length ≤ 1002000 := by
    unfold linkL
    cases h2 : rdDr l with
    | some xs =>
      have h3 := drL_ok l
      have e : drL l = xs := by unfold drL; rw [h2]; rfl
      rw [e] at h3
      have h4 := flat_le lkI 1001 xs (fun x hx => by
        have := h3.2 x hx
        simp only [lkI, List.length_cons, List.length_map]; omega)
      have h5 : xs.length * 1001 ≤ 1000 * 1001 := Nat.mul_le_mul_right _ h3.1
      have h6 : (xs.flatMap fun x => x.Sub :: x.Heads.map (·.Data)) = xs.flatMap lkI := rfl
      simp only [h6]
      omega
    | none =>
      cases h3 : rdCh l with
      | some c =>
        have hrc := rdCh_ok h3
        unfold rightCh at hrc
        simp only [Bool.and_eq_true, decide_eq_true_eq] at hrc
        have p1 := hrc.1.1.1.1.1.1.1.1.1
        have p2 := hrc.1.1.1.2
        simp only [List.length_append, List.length_cons, List.length_nil, List.length_map]
        omega
      | none =>
        cases rdLb l with
        | some x => simp
        | none => simp
  omega
set_option maxRecDepth 100000 in
set_option maxHeartbeats 4000000 in
theorem labelsL_any (w : World) (r : Lbl) (h1 : r.Name.length ≤ 140737488355328) (h2 : r.Msg.length ≤ 140737488355328) : Calls Tryz.prog 6 #[.agg (codL.A r)] w (Gives w (.bool true)) := by
  have f0 : Fr noB w (w.alloc (.cells (codL.A r) 55)) := (Fr.refl noB w).alloc _
  have q0 := Cod.rd_new (C := codL) w 55 r
  go_enter Tryz.func6, Tryz.ntmps6
  go_upto_region 3 with (go_at_call 9; refine (alive_any _).mono ?_; rintro e w1 ⟨rfl, f1⟩)
  replace q0 := Cod.rd_fr0 q0 f1
  replace f0 := f0.step0 f1
  generalize w.heap.size = P at q0 ⊢
  clear f1
  by_cases hr : rightLb r = true
  · have hP : putLb r = some (lbB r) := by unfold putLb; rw [if_pos hr]
    have hRt := Rt.lb hr
    have hK := (kind_lb hRt).1
    have hL := lbB_len hr
    obtain ⟨b, hb⟩ : ∃ b, lbB r = b := ⟨_, rfl⟩
    rw [hb] at hP hRt hK hL
    obtain ⟨L, hLk⟩ : ∃ L, linksO b = L := ⟨_, rfl⟩
    have hLB : L.length ≤ 140737488355328 := by rw [← hLk]; exact links_bd b
    have HR := Lib.hid hr
    have HB := Lib.hid hb
    have HP := Lib.hid hP
    have HRt := Lib.hid hRt
    have HK := Lib.hid hK
    have HL := Lib.hid hL
    have HLK := Lib.hid hLk
    have HLB := Lib.hid hLB
    clear hr hb hP hRt hK hL hLk hLB
    go_upto_region 4 with (go_at_call 28; refine (putLabel_any _ r h1 h2).mono ?_; intro e w2 hp; obtain ⟨A2, c2, rfl, hs2, f2, hc2, _⟩ := hp.some (b := b) (n := b.length) HP.out rfl; clear hp)
    replace q0 := Cod.rd_fr0 q0 f2
    replace f0 := f0.step0 f2
    go_upto_region 6 with (go_at_call 29; refine (r4label_any _ r h1 h2).mono ?_; rintro e w3 ⟨rfl, f3⟩; rw [HR.out])
    replace q0 := Cod.rd_fr0 q0 f3
    replace f0 := f0.step0 f3
    replace hs2 := hs2.fr0 f3
    clear f2 f3
    have hb1 : b.length ≤ 140737488355328 := by have := HL.out; omega
    go_upto_region 7 with (go_at_call 30; refine (labelT_any _ A2 c2 b.length b rfl hs2 hc2 hb1 r HRt.out).mono ?_; rintro e w4 ⟨rfl, f4⟩)
    have fa : Fr noB w4 (w4.alloc (codL.o r)) := (Fr.refl noB w4).alloc _
    have q5 := Cod.rd_new' (C := codL) w4 r
    replace q0 := Cod.rd_fr0 (Cod.rd_fr0 q0 f4) fa
    replace f0 := (f0.step0 f4).step0 fa
    replace hs2 := (hs2.fr0 f4).fr0 fa
    clear f4 fa
    generalize w4.alloc (codL.o r) = W4 at q0 q5 f0 hs2 ⊢
    generalize w4.heap.size = P5 at q5 ⊢
    go_wp2_with (first
      | (go_at_call 31; refine (r4putlabel_z _ r HR.out b HB.out).mono ?_; rintro e w5 ⟨A5, c5, rfl, hs5, f5, hc5⟩; replace hs2 := hs2.fr0 f5; replace q0 := Cod.rd_fr0 q0 f5; replace q5 := Cod.rd_fr0 q5 f5; replace f0 := f0.step0 f5)
      | (go_at_call 12; refine (same_y _ A2 A5 c2 c5 b.length b.length b b rfl rfl hs2 hs5 hb1 rfl).mono ?_; rintro e w6 ⟨rfl, f6⟩; replace hs2 := hs2.fr0 f6; replace q0 := Cod.rd_fr0 q0 f6; replace q5 := Cod.rd_fr0 q5 f6; replace f0 := f0.step0 f6)
      | (go_at_call 14; refine (kind_z _ A2 c2 b.length b rfl hs2 hc2 hb1 4 4 HK.out rfl).mono ?_; rintro e w7 ⟨rfl, f7⟩; replace hs2 := hs2.fr0 f7; replace f0 := f0.step0 f7)
      | (go_at_call 21; refine (links_len _ A2 c2 b.length b rfl hs2 hc2 hb1 L HLK.out).mono ?_; rintro e w8 ⟨A8, c8, rfl, hs8, f8⟩; replace hs2 := hs2.fr0 f8; replace f0 := f0.step0 f8)
      | (go_at_call 22; refine (r4links_len _ A2 c2 b.length b rfl hs2 hc2 hb1 L HLK.out).mono ?_; rintro e w9 ⟨A9, c9, rfl, hs9, f9⟩; replace hs8 := hs8.fr0 f9; replace f0 := f0.step0 f9)
      | (go_at_call 20; refine (same_ids _ A8 A9 c8 c9 L.length L.length L rfl rfl hs8 hs9 HLB.out).mono ?_; rintro e w10 ⟨rfl, f10⟩; replace f0 := f0.step0 f10))
    go_ret
    exact ⟨rfl, f0⟩
  · have hr' : rightLb r = false := by simpa using hr
    have hP : putLb r = none := by unfold putLb; rw [if_neg hr]
    have HR := Lib.hid hr'
    have HP := Lib.hid hP
    clear hr hr' hP
    go_upto_region 4 with (go_at_call 28; refine (putLabel_any _ r h1 h2).mono ?_; intro e w2 hp; obtain ⟨A2, c2, rfl, f2⟩ := hp.no HP.out; clear hp)
    replace q0 := Cod.rd_fr0 q0 f2
    replace f0 := f0.step0 f2
    go_wp2_with (go_at_call 29; refine (r4label_any _ r h1 h2).mono ?_; rintro e w3 ⟨rfl, f3⟩; rw [HR.out])
    go_ret
    exact ⟨rfl, f0.step0 f3⟩
end Go.Proofs.YtejkfekpgbmdiaaGreat
