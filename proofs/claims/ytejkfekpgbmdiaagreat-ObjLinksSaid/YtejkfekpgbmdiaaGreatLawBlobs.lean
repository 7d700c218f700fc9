/- Walk of the law ObjBlobs. -/
import Derived.Test.YtejkfekpgbmdiaaGreatLawOne
import Derived.Test.YtejkfekpgbmdiaaGreatRef1
namespace Go.Proofs.YtejkfekpgbmdiaaGreat
open Go.RowKit
set_option linter.unusedVariables false
set_option linter.unusedSimpArgs false

theorem blobT_any (w : World) (A : Option Addr) (c n : Nat) (l : List UInt8) (hn : l.length = n) (hs : Sl w A (bv l)) (hcap : l.length ≤ c) (hb : l.length ≤ 140737488355328) (m : List UInt8) (h : rdBl l = some m) :
    Calls Tryz.prog 11 #[.slice A n c] w fun e w' => ∃ B d, e = .returned (.tuple #[.slice B m.length d, .int .i64 0]) ∧ Sl w' B (bv m) ∧ Fr noB w w' := by
  refine (blob_any w A c n l hn hs hcap hb).mono ?_
  rintro e w' ⟨B, d, rfl, ho, f⟩
  rw [h] at ho ⊢
  exact ⟨B, d, rfl, Sl.own ho, f⟩
theorem same_y (w : World) (A B : Option Addr) (c d n n' : Nat) (l m : List UInt8) (hn : l.length = n) (hn' : m.length = n') (hA : Sl w A (bv l)) (hB : Sl w B (bv m)) (hl : l.length ≤ 140737488355328) (h : l = m) :
    Calls Tryz.prog 12 #[.slice A n c, .slice B n' d] w (Gives w (.bool true)) := by
  subst hn hn' h
  refine (same_any w A B c d l l hA hB hl hl).mono ?_
  rintro e w' ⟨rfl, f⟩
  exact ⟨by simp, f⟩
theorem kind_bl {l : List UInt8} (h : l.length ≤ 4096) : rdBl (1 :: l) = some l ∧ kindO (1 :: l) = 1 := by
  have e : rdBl (1 :: l) = some l := by simp [rdBl, h]
  exact ⟨e, by unfold kindO; rw [e]; rfl⟩
theorem bl_of {l : List UInt8} (h : l.length ≤ 4096) : (rdBl l = none ∧ (l.length = 0 ∨ ∃ c t, l = c :: t ∧ c ≠ 1)) ∨ (∃ t, l = 1 :: t ∧ rdBl l = some t) := by
  cases l with
  | nil => exact .inl ⟨rfl, .inl rfl⟩
  | cons c t =>
    by_cases hc : c = 1
    · subst hc
      exact .inr ⟨t, rfl, by simp at h; simp [rdBl]; omega⟩
    · exact .inl ⟨by simp [rdBl, hc], .inr ⟨c, t, rfl, hc⟩⟩
set_option maxRecDepth 100000 in
set_option maxHeartbeats 4000000 in
theorem blobsL_any (w : World) (A0 : Option Addr) (c0 : Nat) (l : List UInt8) (hs : Sl w A0 (bv l)) (hc : l.length ≤ c0) (hb : l.length ≤ 140737488355328) :
    Calls Tryz.prog 3 #[.slice A0 l.length c0] w (Gives w (.bool true)) := by
  go_enter Tryz.func3, Tryz.ntmps3
  go_upto_region 3 with (go_at_call 9; refine (alive_any _).mono ?_; rintro e w1 ⟨rfl, f0⟩)
  replace hs := hs.fr0 f0
  by_cases hl : l.length ≤ 4096
  · obtain ⟨bX, hX⟩ : ∃ z : List UInt8, z = 1 :: l := ⟨_, rfl⟩
    have hP : putBl l = some bX := by unfold putBl; rw [if_pos hl, hX]
    have HX := Lib.hid hX
    have HP := Lib.hid hP
    have hR : rdBl bX = some l ∧ kindO bX = 1 := by rw [hX]; exact kind_bl hl
    have HR := Lib.hid hR
    have hlX : bX.length ≤ 5000 := by rw [hX]; simp; omega
    have i1 : ¬ (4096 : Int) < (l.length : Int) := by omega
    clear hX hP hR
    go_upto_region 6 with (go_at_call 10; refine (putBlob_any _ A0 c0 l.length l rfl hs (by omega)).mono ?_; intro e w2 hp; obtain ⟨A2, c2, rfl, hs2, f2, hc2, _⟩ := hp.some (b := bX) (n := bX.length) HP.out rfl; clear hp)
    replace hs := hs.fr0 f2
    replace f0 := f0.step0 f2
    go_upto_region 7 with (go_at_call 11; refine (blobT_any _ A2 c2 bX.length bX rfl hs2 hc2 (by omega) l HR.out.1).mono ?_; rintro e w3 ⟨A3, c3, rfl, hs3, f3⟩)
    replace hs := hs.fr0 f3
    replace hs2 := hs2.fr0 f3
    replace f0 := f0.step0 f3
    rcases bl_of hl with ⟨hn, hh⟩ | ⟨t, ht, hn⟩
    · have HN := Lib.hid hn
      have HH := Lib.hid hh
      clear hn hh
      go_upto_region 8 with (go_at_call 11; refine (blob_no _ A0 c0 l.length l rfl hs hc (by omega) HN.out).mono ?_; rintro e w4 ⟨A4, c4, rfl, f4⟩)
      replace hs := hs.fr0 f4
      replace hs2 := hs2.fr0 f4
      replace hs3 := hs3.fr0 f4
      replace f0 := f0.step0 f4
      have tok1 : True := trivial
      go_upto_region 10 with (first
        | (have tt := tok1; go_at_call 12; refine (same_y _ A3 A0 c3 c0 l.length l.length l l rfl rfl hs3 hs (by omega) rfl).mono ?_; rintro e w5 ⟨rfl, f5⟩; clear tt tok1; have tok2 : True := trivial; replace hs := hs.fr0 f5; replace hs2 := hs2.fr0 f5; replace f0 := f0.step0 f5; have fn : Fr noB w5 (w5.alloc (.cells #[.int .u8 1] 5)) := (Fr.refl noB w5).alloc _; have ho1 := own_lit1 w5 1 1 rfl; have hs' := hs.fr0 fn)
        | (go_at_call 13; refine (join_any _ (some ⟨w5.heap.size, 0, none⟩) A0 1 c0 [1] l (Sl.own ho1) hs' (by simp; omega)).mono ?_; rintro e w6 ⟨A6, c6, rfl, ho6, f6⟩; replace f6 := fn.step0 f6; have ho6' := Sl.own ho6; obtain ⟨l6, hl6⟩ : ∃ z : List UInt8, z = [1] ++ l := ⟨_, rfl⟩; rw [← hl6] at ho6' ⊢; have HL6 := Lib.hid hl6; clear hl6 ho6)
        | (have tt := tok2; go_at_call 12; refine (same_y _ A2 A6 c2 c6 bX.length l6.length bX l6 rfl rfl (hs2.fr0 f6) ho6' (by omega) (by rw [HX.out, HL6.out]; rfl)).mono ?_; rintro e w7 ⟨rfl, f7⟩; clear tt tok2; replace f6 := f6.step0 f7)
        | (go_at_call 14; refine (kind_z _ A2 c2 bX.length bX rfl (hs2.fr0 f6) hc2 (by omega) 1 1 HR.out.2 rfl).mono ?_; rintro e w8 ⟨rfl, f8⟩; replace f6 := f6.step0 f8))
      replace hs := hs.fr0 f6
      replace f0 := f0.step0 f6
      have F46 := Lib.hid (f5.step0 f6)
      clear hs2 hs3 f5 f6 f7 f8 fn ho1 hs' ho6'
      rcases HH.out with h0 | ⟨x, t, ht, hx⟩
      · have z0 : ((l.length : Int) == 0) = true := by rw [h0]; rfl
        clear h0
        go_wp2_with fail
        go_ret
        exact ⟨rfl, f0⟩
      · obtain ⟨g, off, rfl, hg, hcc⟩ := hs (by rw [ht]; simp [bv_cons])
        have hp : 0 < l.length := by rw [ht]; simp
        have z0 : ((l.length : Int) == 0) = false := by rw [beq_eq_false_iff_ne]; omega
        have i0 : (0 : Int) < (l.length : Int) := by omega
        have hcell := hcc 0 (.int .u8 (x.toNat : Int)) (by rw [ht]; simp [bv_cons, u8v])
        have hxx : ((x.toNat : Int) != 1) = true := by
          rw [bne_iff_ne]
          intro h
          exact hx (UInt8.toNat_inj.1 (by have : x.toNat = 1 := by omega
                                          rw [this]; rfl))
        rw [Nat.add_zero] at hcell
        clear hcc ht hx
        go_wp2_with fail
        go_ret
        exact ⟨rfl, f0⟩
    · have HN := Lib.hid hn
      have HT := Lib.hid ht
      clear hn ht
      go_upto_region 8 with (go_at_call 11; refine (blobT_any _ A0 c0 l.length l rfl hs hc (by omega) t HN.out).mono ?_; rintro e w4 ⟨A4, c4, rfl, hs4, f4⟩)
      replace hs := hs.fr0 f4
      replace hs2 := hs2.fr0 f4
      replace hs3 := hs3.fr0 f4
      replace f0 := f0.step0 f4
      have tok1 : True := trivial
      go_upto_region 10 with (first
        | (have tt := tok1; go_at_call 12; refine (same_y _ A3 A0 c3 c0 l.length l.length l l rfl rfl hs3 hs (by omega) rfl).mono ?_; rintro e w5 ⟨rfl, f5⟩; clear tt tok1; have tok2 : True := trivial; replace hs := hs.fr0 f5; replace hs2 := hs2.fr0 f5; replace f0 := f0.step0 f5; have fn : Fr noB w5 (w5.alloc (.cells #[.int .u8 1] 5)) := (Fr.refl noB w5).alloc _; have ho1 := own_lit1 w5 1 1 rfl; have hs' := hs.fr0 fn)
        | (go_at_call 13; refine (join_any _ (some ⟨w5.heap.size, 0, none⟩) A0 1 c0 [1] l (Sl.own ho1) hs' (by simp; omega)).mono ?_; rintro e w6 ⟨A6, c6, rfl, ho6, f6⟩; replace f6 := fn.step0 f6; have ho6' := Sl.own ho6; obtain ⟨l6, hl6⟩ : ∃ z : List UInt8, z = [1] ++ l := ⟨_, rfl⟩; rw [← hl6] at ho6' ⊢; have HL6 := Lib.hid hl6; clear hl6 ho6)
        | (have tt := tok2; go_at_call 12; refine (same_y _ A2 A6 c2 c6 bX.length l6.length bX l6 rfl rfl (hs2.fr0 f6) ho6' (by omega) (by rw [HX.out, HL6.out]; rfl)).mono ?_; rintro e w7 ⟨rfl, f7⟩; clear tt tok2; replace f6 := f6.step0 f7)
        | (go_at_call 14; refine (kind_z _ A2 c2 bX.length bX rfl (hs2.fr0 f6) hc2 (by omega) 1 1 HR.out.2 rfl).mono ?_; rintro e w8 ⟨rfl, f8⟩; replace f6 := f6.step0 f8))
      replace hs := hs.fr0 f6
      replace f0 := f0.step0 f6
      have F46 := Lib.hid (f5.step0 f6)
      clear hs2 hs3 f5 f6 f7 f8 fn ho1 hs' ho6'
      replace hs4 := hs4.fr0 F46.out
      have ht := HT.out
      have hp : 0 < l.length := by rw [ht]; simp
      obtain ⟨g, off, rfl, hg, hcc⟩ := id hs (by rw [ht]; simp [bv_cons])
      have z0 : ((l.length : Int) == 0) = false := by rw [beq_eq_false_iff_ne]; omega
      have i0 : (0 : Int) < (l.length : Int) := by omega
      have i0' : (1 : Int) ≤ (l.length : Int) := by omega
      have hcell := hcc 0 (.int .u8 1) (by rw [ht]; simp [bv_cons, u8v])
      rw [Nat.add_zero] at hcell
      have hcut := hs.cutB (k := 1) (c := c0) hc
      have hd : t = l.drop 1 := by rw [ht]; rfl
      have hld : (l.drop 1).length = l.length - 1 := by rw [List.length_drop]
      have HD := Lib.hid hd
      have HLD := Lib.hid hld
      clear hcc ht hd hld
      go_wp2_with (go_at_call 12; refine (same_y _ A4 _ c4 _ t.length (l.length - 1) t (l.drop 1) rfl HLD.out hs4 hcut (by rw [HD.out, HLD.out]; omega) HD.out).mono ?_; rintro e w9 ⟨rfl, f9⟩)
      go_ret
      exact ⟨rfl, f0.step0 f9⟩
  · have i1 : (4096 : Int) < (l.length : Int) := by omega
    have HP := Lib.hid (show putBl l = none by unfold putBl; rw [if_neg hl])
    go_wp2_with (go_at_call 10; refine (putBlob_any _ A0 c0 l.length l rfl hs (by omega)).mono ?_; intro e w2 hp; obtain ⟨A2, c2, rfl, f2⟩ := hp.no HP.out; clear hp)
    go_ret
    exact ⟨rfl, f0.step0 f2⟩
end Go.Proofs.YtejkfekpgbmdiaaGreat
