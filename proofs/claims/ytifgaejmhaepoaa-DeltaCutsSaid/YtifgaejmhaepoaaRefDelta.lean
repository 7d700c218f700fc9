/- Contracts: the reference's Apply. -/
import Derived.Test.YtifgaejmhaepoaaRef2
import Derived.Test.YtifgaejmhaepoaaDeltaP
import Derived.Deep.LoopGhost
namespace Go.Proofs.Ytifgaejmhaepoaa
open Go.RowKit
set_option linter.unusedVariables false
set_option linter.unusedSimpArgs false

theorem getnum_eq (w : World) (A : Option Addr) (c : Nat) (s : RS) (most : Nat) (hm : most ≤ 4611686018427387904) (hs : Sl w A (bv s.1)) (hc : s.1.length ≤ c) (hlen : s.1.length ≤ 140737488355328)
    (n : Nat) (hn : s.1.length = n) (bad : Bool) (hb : s.2 = bad) (m : Nat) (s' : RS) (hh : rdNum most s = (m, s')) :
    Calls Try.prog 21 #[.agg #[.slice A n c, .bool bad], .int .i64 most] w (InTo w (m, s')) := by
  subst hn; subst hb
  have := getnum_any w A c s most hm hs hc hlen
  rwa [hh] at this

def RefApplyTo (w : World) (r : Except Nat (List UInt8)) (e : Ending) (w' : World) : Prop :=
  ∃ A c, e = .returned (.tuple #[.slice A (resB r).length c, .int .i64 (resE r)]) ∧ Sl w' A (bv (resB r)) ∧ Fr noB w w'

theorem RefApplyTo.err {w w' : World} {r : Except Nat (List UInt8)} {n : Nat} (h : r = .error n) (hf : Fr noB w w') : RefApplyTo w r (.returned (.tuple #[.slice none 0 0, .int .i64 n])) w' := by
  subst h
  exact ⟨none, 0, rfl, Sl.nil _ _, hf⟩

theorem join_n (w : World) (A B : Option Addr) (c d : Nat) (l m : List UInt8) (hA : Sl w A (bv l)) (hB : Sl w B (bv m)) (hl : l.length + m.length ≤ 140737488355328) (n k : Nat) (hn : l.length = n) (hk : m.length = k) :
    Calls Try.prog 22 #[.slice A n c, .slice B k d] w (NewBytes w (l ++ m)) := by
  subst hn; subst hk
  exact join_any w A B c d l m hA hB hl

theorem rset {w : World} {B : Nat} {t : TypeId} {u v : Value} (hB : Blk w B t [u, v]) (x y : Value) (o : Obj) :
    Blk (((w.setCell ⟨B, 0, none⟩ x).setCell ⟨B, 1, none⟩ y).alloc o) B t [x, y] ∧ Fr (oneB B) w (((w.setCell ⟨B, 0, none⟩ x).setCell ⟨B, 1, none⟩ y).alloc o) := by
  refine ⟨?_, ((((Fr.refl (oneB B) w).setCell (p := ⟨B, 0, none⟩) (fun _ => rfl) _).setCell (p := ⟨B, 1, none⟩) (fun _ => rfl) _).alloc _)⟩
  have := ((hB.set 0 x).set 1 y).alloc o
  simpa using this
theorem rset1 {w : World} {B : Nat} {t : TypeId} {u v : Value} (hB : Blk w B t [u, v]) (x : Value) :
    Blk (w.setCell ⟨B, 0, none⟩ x) B t [x, v] ∧ Fr (oneB B) w (w.setCell ⟨B, 0, none⟩ x) := by
  refine ⟨?_, ((Fr.refl (oneB B) w).setCell (p := ⟨B, 0, none⟩) (fun _ => rfl) _)⟩
  have := hB.set 0 x
  simpa using this
theorem noInt2 {A : Option Addr} {n c : Nat} {b : Bool} : ∀ (j : Nat) (m : Int), [Value.slice A n c, .bool b][j]? ≠ some (.int .u8 m) := by
  intro j m
  rcases j with _ | _ | j <;> simp

/-- the relation of the loop in the reference's Apply; B: the reader's block -/
def RApR (w : World) (base : List UInt8) (B : Nat) (R : Except Nat (List UInt8)) (gk : Nat) (ov : Value) (wr : World) : Prop :=
  ∃ (lr : List UInt8) (Ar : Option Addr) (cr : Nat) (out : List UInt8) (Ao : Option Addr) (co : Nat),
    ov = .slice Ao out.length co ∧ Sl wr Ao (bv out) ∧ out.length ≤ 1048576 ∧ Blk wr B 44 [.slice Ar lr.length cr, .bool false] ∧ lr.length ≤ cr ∧ lr.length ≤ 140737488351232 ∧ Sl wr Ar (bv lr) ∧ Fr noB w wr ∧ w.heap.size ≤ B ∧ gk = lr.length ∧ R = apS base (lr, false) out

set_option maxRecDepth 100000 in
set_option maxHeartbeats 1000000 in
theorem refapply_any (w : World) (A D : Option Addr) (c cd : Nat) (base d : List UInt8) (hA : Sl w A (bv base)) (hD : Sl w D (bv d)) (hc : base.length ≤ c) (hcd : d.length ≤ cd)
    (hb : base.length ≤ 140737488351232) (hd : d.length ≤ 140737488351232) :
    Calls Try.prog 11 #[.slice A base.length c, .slice D d.length cd] w (RefApplyTo w (applyD base d)) := by
  rw [applyD_eq]
  generalize hr0 : rdNum 1048576 (d, false) = r0
  obtain ⟨told, s0⟩ := r0
  have HR0 := Lib.hid hr0
  clear hr0
  simp only
  rcases rdNum_or HR0.out with ⟨rfl, rfl, _⟩ | ⟨_, hs0, _, htm, hlt0, q, hq⟩
  · go_enter Try.func11, Try.ntmps11
    go_wp2_with (go_at_call 21; refine (getnum_eq w D cd (d, false) 1048576 (by decide) hD hcd (by simp only; omega) _ rfl _ rfl 0 ([], true) HR0.out).mono ?_; rintro e w1 ⟨A1, c1, rfl, hlc, hs1, hf1⟩)
    go_ret2
    exact RefApplyTo.err rfl (hf1.alloc _)
  obtain ⟨t0, bad0⟩ := s0
  simp only at hs0 hlt0 hq
  subst hs0
  clear hq
  go_enter Try.func11, Try.ntmps11
  go_wp2_with (go_at_call 21; refine (getnum_eq w D cd (d, false) 1048576 (by decide) hD hcd (by simp only; omega) _ rfl _ rfl told (t0, false) HR0.out).mono ?_; rintro e w1 ⟨A1, c1, rfl, hlc, hs1, hf1⟩)
  generalize hB0 : w1.heap.size = B
  have HB0 := Lib.hid hB0
  clear hB0
  go_loopg [8] t0.length (fun gk ov wr => RApR w base B (apS base (t0, false) []) gk ov wr)
  case atStart =>
    refine ⟨t0, A1, c1, [], some ⟨B + 1, 0, none⟩, 0, rfl, Sl.nil _ _, by simp, ?_, hlc, by omega, hs1.fr0 (((Fr.refl noB w1).alloc _).alloc _), (hf1.alloc _).alloc _, by rw [← HB0.out]; exact hf1.size, rfl, rfl⟩
    rw [← HB0.out]
    exact (Blk.new w1 44 [.slice A1 t0.length c1, .bool false]).alloc _
  case round =>
    obtain ⟨lr, Ar, cr, out, Ao, co, rfl, hso, hol, hB, hlr, hlm, hsr, hF, hBw, rfl, hR⟩ := hrel
    have c0 : wr.cell? ⟨B, 0, none⟩ = some (.slice Ar lr.length cr) := hB.cell 0
    have c1 : wr.cell? ⟨B, 1, none⟩ = some (.bool false) := hB.cell 1
    have f0 := hB.frozen 0
    have f1 := hB.frozen 1
    clear hs1 hlc hf1
    by_cases hl0 : lr = []
    · subst hl0
      rw [apS_nil] at hR
      have HR := Lib.hid hR
      clear hR
      by_cases htold : out.length = told
      · have e1 : ((out.length : Int) != (told : Int)) = false := by simp [htold]
        have HT := Lib.hid htold
        clear htold
        go_wp2
        go_ret2
        rw [HR.out, apT, if_pos HT.out]
        exact ⟨Ao, co, rfl, hso, hF⟩
      · have e1 : ((out.length : Int) != (told : Int)) = true := by rw [bne_iff_ne]; omega
        have HT := Lib.hid htold
        clear htold
        go_wp2
        go_ret2
        exact RefApplyTo.err (by rw [HR.out, apT, if_neg HT.out]) hF
    have hpos : 0 < lr.length := List.length_pos_iff.2 hl0
    generalize hn : rdNum 4611686018427387904 (lr, false) = r1
    obtain ⟨n, s1⟩ := r1
    have HN := Lib.hid hn
    rw [apS_step _ _ _ hl0] at hR
    clear hl0
    rcases rdNum_or hn with ⟨rfl, rfl, h | h⟩ | ⟨_, hs1, hg, hnm, hlt, q, hq⟩
    · cases h
    · simp only at h
      rw [h] at hR
      have HR := Lib.hid hR
      clear hR hn h
      go_wp2_with (go_at_call 21; refine (getnum_eq wr Ar cr (lr, false) 4611686018427387904 (by decide) hsr hlr (by simp only; omega) _ rfl _ rfl 0 ([], true) HN.out).mono ?_; rintro e w2 ⟨A2, c2, rfl, hlc, hs2, hf2⟩; have hB2 := hB.fr hf2 (by simp [noB]); have d0 := hB2.cell 0; have d1 := hB2.cell 1; have g0 := hB2.frozen 0; have g1 := hB2.frozen 1)
      go_ret2
      exact RefApplyTo.err (by rw [HR.out]; rfl) ((hF.step0 hf2).alloc _)
    obtain ⟨t1, bad⟩ := s1
    simp only at hs1 hlt hq hg
    subst hs1
    rw [hg] at hR
    simp only at hR
    clear hn hq hg
    by_cases hbad : n / 2 < 1 ∨ 1048576 < n / 2 + out.length
    · rw [if_pos hbad] at hR
      have HR := Lib.hid hR
      clear hR
      rcases (show n / 2 < 1 ∨ (1 ≤ n / 2 ∧ 1048576 < n / 2 + out.length) by omega) with h1 | ⟨h1, h2⟩
      all_goals
        clear hbad
        go_wp2_with (go_at_call 21; refine (getnum_eq wr Ar cr (lr, false) 4611686018427387904 (by decide) hsr hlr (by simp only; omega) _ rfl _ rfl n (t1, false) HN.out).mono ?_; rintro e w2 ⟨A2, c2, rfl, hlc, hs2, hf2⟩; have hB2 := hB.fr hf2 (by simp [noB]); have hB2l := hB2.lt; have d0 := hB2.cell 0; have d1 := hB2.cell 1; have g0 := hB2.frozen 0; have g1 := hB2.frozen 1)
        go_ret2
        exact RefApplyTo.err (by rw [HR.out]; rfl) ((hF.step0 (by assumption)).alloc _)
    rw [if_neg hbad] at hR
    have hk1 : 1 ≤ n / 2 := by omega
    have hk2 : n / 2 + out.length ≤ 1048576 := by omega
    clear hbad
    by_cases hpar : n % 2 = 0
    · rw [if_pos hpar] at hR
      have hpar' : n % 2 ≤ 0 := by omega
      clear hpar
      by_cases hlt1 : t1.length < n / 2
      · rw [if_pos hlt1] at hR
        have HR := Lib.hid hR
        clear hR
        go_wp2_with (go_at_call 21; refine (getnum_eq wr Ar cr (lr, false) 4611686018427387904 (by decide) hsr hlr (by simp only; omega) _ rfl _ rfl n (t1, false) HN.out).mono ?_; rintro e w2 ⟨A2, c2, rfl, hlc, hs2, hf2⟩; have hB2 := hB.fr hf2 (by simp [noB]); have hB2l := hB2.lt; have d0 := hB2.cell 0; have d1 := hB2.cell 1; have g0 := hB2.frozen 0; have g1 := hB2.frozen 1)
        go_ret2
        exact RefApplyTo.err (by rw [HR.out]; rfl) ((hF.step0 hf2).step1 (rset hB2 _ _ _).2 hBw)
      · rw [if_neg hlt1] at hR
        have HR := Lib.hid hR
        clear hR
        go_wp2_with (first | (go_at_call 21; refine (getnum_eq wr Ar cr (lr, false) 4611686018427387904 (by decide) hsr hlr (by simp only; omega) _ rfl _ rfl n (t1, false) HN.out).mono ?_; rintro e w2 ⟨A2, c2, rfl, hlc, hs2, hf2⟩; have hB2 := hB.fr hf2 (by simp [noB]); have hB2l := hB2.lt; have d0 := hB2.cell 0; have d1 := hB2.cell 1; have g0 := hB2.frozen 0; have g1 := hB2.frozen 1) | (go_at_call 22; refine (join_n _ Ao A2 co c2 out (t1.take (n / 2)) ((hso.fr0 hf2).frB hB2 noInt2 (rset hB2 _ _ _).2) (hs2.takeB.frB hB2 noInt2 (rset hB2 _ _ _).2) (by simp; omega) _ _ rfl (by simp; omega)).mono ?_; rintro e w3 ⟨A3, c3, rfl, ho3, hf3⟩; have hB3 := (rset hB2 (.slice A2 t1.length c2) (.bool false) (.cells #[.slice A2 t1.length c2, .bool false] 44)).1.fr hf3 (by simp [noB]); have hB3l := hB3.lt; have i0 := hB3.cell 0; have i1 := hB3.cell 1; have j0 := hB3.frozen 0; have j1 := hB3.frozen 1))
        go_roundg (t1.drop (n / 2)).length
        case measure => simp; omega
        case rel =>
          have hR3 := rset1 hB3 (.slice (cutA A2 c2 (n / 2) 1) (t1.drop (n / 2)).length (c2 - n / 2))
          have hso3 := (Sl.own ho3).frB hB3 noInt2 hR3.2
          have hs3 := ((hs2.cutB (k := n / 2) hlc).frB hB2 noInt2 (rset hB2 _ _ _).2).fr0 hf3 |>.frB hB3 noInt2 hR3.2
          have hFr := (((hF.step0 hf2).step1 (rset hB2 (.slice A2 t1.length c2) (.bool false) (.cells #[.slice A2 t1.length c2, .bool false] 44)).2 hBw).step0 hf3).step1 hR3.2 hBw
          simp only [List.length_drop] at hR3 hso3 hs3 hFr
          exact ⟨t1.drop (n / 2), cutA A2 c2 (n / 2) 1, c2 - n / 2, out ++ t1.take (n / 2), A3, c3, by simp, hso3, by simp; omega, by simpa using hR3.1, by simp; omega, by simp; omega, hs3, hFr, hBw, rfl, HR.out⟩
    · rw [if_neg hpar] at hR
      have hpar' : 1 ≤ n % 2 := by omega
      clear hpar
      generalize ho2 : rdNum 4611686018427387904 (t1, false) = r2
      obtain ⟨o, s2⟩ := r2
      have HO := Lib.hid ho2
      have tok : True := trivial
      rcases rdNum_or ho2 with ⟨rfl, rfl, h | h⟩ | ⟨_, hs1, hg2, hom, hlt2, q, hq⟩
      · cases h
      · simp only at h
        rw [h] at hR
        have HR := Lib.hid hR
        clear hR ho2 h
        go_wp2_with (first | (go_at_call 21; have _t := tok; refine (getnum_eq wr Ar cr (lr, false) 4611686018427387904 (by decide) hsr hlr (by simp only; omega) _ rfl _ rfl n (t1, false) HN.out).mono ?_; rintro e w2 ⟨A2, c2, rfl, hlc, hs2, hf2⟩; have hB2 := hB.fr hf2 (by simp [noB]); have hB2l := hB2.lt; have d0 := hB2.cell 0; have d1 := hB2.cell 1; have g0 := hB2.frozen 0; have g1 := hB2.frozen 1; clear tok) | (go_at_call 21; refine (getnum_eq _ A2 c2 (t1, false) 4611686018427387904 (by decide) (hs2.frB hB2 noInt2 (rset hB2 _ _ _).2) hlc (by simp only; omega) _ rfl _ rfl 0 ([], true) HO.out).mono ?_; rintro e w3 ⟨A3, c3, rfl, hlc3, hs3, hf3⟩))
        go_ret2
        exact RefApplyTo.err (by rw [HR.out]; rfl) ((((hF.step0 hf2).step1 (rset hB2 _ _ _).2 hBw).step0 hf3).alloc _)
      obtain ⟨t2, bad⟩ := s2
      simp only at hs1 hlt2 hq hg2
      subst hs1
      rw [hg2] at hR
      simp only at hR
      clear ho2 hq hg2
      by_cases hbig : base.length < o + n / 2
      · rw [if_pos hbig] at hR
        have HR := Lib.hid hR
        clear hR
        go_wp2_with (first | (go_at_call 21; have _t := tok; refine (getnum_eq wr Ar cr (lr, false) 4611686018427387904 (by decide) hsr hlr (by simp only; omega) _ rfl _ rfl n (t1, false) HN.out).mono ?_; rintro e w2 ⟨A2, c2, rfl, hlc, hs2, hf2⟩; have hB2 := hB.fr hf2 (by simp [noB]); have hB2l := hB2.lt; have d0 := hB2.cell 0; have d1 := hB2.cell 1; have g0 := hB2.frozen 0; have g1 := hB2.frozen 1; clear tok) | (go_at_call 21; refine (getnum_eq _ A2 c2 (t1, false) 4611686018427387904 (by decide) (hs2.frB hB2 noInt2 (rset hB2 _ _ _).2) hlc (by simp only; omega) _ rfl _ rfl o (t2, false) HO.out).mono ?_; rintro e w3 ⟨A3, c3, rfl, hlc3, hs3, hf3⟩; have hB3 := (rset hB2 (.slice A2 t1.length c2) (.bool false) (.cells #[.slice A2 t1.length c2, .bool false] 44)).1.fr hf3 (by simp [noB]); have hB3l := hB3.lt; have i0 := hB3.cell 0; have i1 := hB3.cell 1; have j0 := hB3.frozen 0; have j1 := hB3.frozen 1))
        go_ret2
        exact RefApplyTo.err (by rw [HR.out]; rfl) ((((hF.step0 hf2).step1 (rset hB2 (.slice A2 t1.length c2) (.bool false) (.cells #[.slice A2 t1.length c2, .bool false] 44)).2 hBw).step0 hf3).step1 (rset hB3 _ _ _).2 hBw)
      · rw [if_neg hbig] at hR
        have HR := Lib.hid hR
        have HS : Sl w (cutA A c o 1) (bv ((base.drop o).take (n / 2))) := (hA.cutB (k := o) hc).takeB
        clear hR
        go_wp2_with (first | (go_at_call 21; have _t := tok; refine (getnum_eq wr Ar cr (lr, false) 4611686018427387904 (by decide) hsr hlr (by simp only; omega) _ rfl _ rfl n (t1, false) HN.out).mono ?_; rintro e w2 ⟨A2, c2, rfl, hlc, hs2, hf2⟩; have hB2 := hB.fr hf2 (by simp [noB]); have hB2l := hB2.lt; have d0 := hB2.cell 0; have d1 := hB2.cell 1; have g0 := hB2.frozen 0; have g1 := hB2.frozen 1; clear tok) | (go_at_call 21; refine (getnum_eq _ A2 c2 (t1, false) 4611686018427387904 (by decide) (hs2.frB hB2 noInt2 (rset hB2 _ _ _).2) hlc (by simp only; omega) _ rfl _ rfl o (t2, false) HO.out).mono ?_; rintro e w3 ⟨A3, c3, rfl, hlc3, hs3, hf3⟩; have hB3 := (rset hB2 (.slice A2 t1.length c2) (.bool false) (.cells #[.slice A2 t1.length c2, .bool false] 44)).1.fr hf3 (by simp [noB]); have hB3l := hB3.lt; have i0 := hB3.cell 0; have i1 := hB3.cell 1; have j0 := hB3.frozen 0; have j1 := hB3.frozen 1) | (go_at_call 22; refine (join_n _ Ao (cutA A c o 1) co _ out ((base.drop o).take (n / 2)) ((((hso.fr0 hf2).frB hB2 noInt2 (rset hB2 (.slice A2 t1.length c2) (.bool false) (.cells #[.slice A2 t1.length c2, .bool false] 44)).2).fr0 hf3).frB hB3 noInt2 (rset hB3 _ _ _).2) (HS.fr0 ((((hF.step0 hf2).step1 (rset hB2 (.slice A2 t1.length c2) (.bool false) (.cells #[.slice A2 t1.length c2, .bool false] 44)).2 hBw).step0 hf3).step1 (rset hB3 _ _ _).2 hBw)) (by simp; omega) _ _ rfl (by simp; omega)).mono ?_; rintro e w4 ⟨A4, c4, rfl, ho4, hf4⟩))
        go_roundg t2.length
        case measure => omega
        case rel =>
          have hR3 := rset hB3 (.slice A3 t2.length c3) (.bool false) (.cells #[.slice A3 t2.length c3, .bool false] 44)
          have hs4 := (hs3.frB hB3 noInt2 hR3.2).fr0 hf4
          exact ⟨t2, A3, c3, out ++ (base.drop o).take (n / 2), A4, c4, by simp, Sl.own ho4, by simp; omega, hR3.1.fr hf4 (by simp [noB]), hlc3, by omega, hs4, ((((hF.step0 hf2).step1 (rset hB2 (.slice A2 t1.length c2) (.bool false) (.cells #[.slice A2 t1.length c2, .bool false] 44)).2 hBw).step0 hf3).step1 hR3.2 hBw).step0 hf4, hBw, rfl, HR.out⟩
end Go.Proofs.Ytifgaejmhaepoaa
