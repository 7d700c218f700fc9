/- Contract: pollardlaw14.tree. (ex_ldS_at, ex_ldO_at) -/
import Derived.Test.YtefcalkbfaefgaaGreatGlFK
import Derived.Test.YtefcalkbfaefgaaGreatDtQK
import Derived.Test.YtefcalkbfaefgaaGreatLawDK
namespace Go.Proofs.YtefcalkbfaefgaaGreat
open Go.RowKit Go.Sort
set_option linter.unusedVariables false
set_option linter.unusedSimpArgs false
attribute [local go_sem] Oper.semAt_some

/-- a tree of the first operations that may be, none later than m -/
structure Tr14 (W : World) (wr : World) (b : Nat) (t : TrW) (L : List Opn) (m : Int) : Prop where
  gv : GvS W.heap.size wr b t L
  srt : SrtL L
  len : L.length ≤ 30
  T : ∀ o ∈ L, o.At.T ≤ m
  m0 : 0 ≤ m
  m1 : m ≤ 1099511627776
  fr : Fr noB W wr
def Tr14Loop (W : World) (b : Nat) (N : Nat) (gk : Nat) (iv nv : Value) (wr : World) : Prop :=
  ∃ (k : Nat) (t : TrW) (L : List Opn) (m : Int), iv = .int .i64 (k : Int) ∧ nv = .int .i64 m ∧ gk = N - k ∧ k ≤ N ∧ L.length ≤ k ∧ Tr14 W wr b t L m
def Tree14To (W : World) (e : Ending) (w' : World) : Prop :=
  ∃ (b : Nat) (t : TrW) (L : List Opn) (m : Int), e = .returned (.tuple #[.pointer (some ⟨b, 0, none⟩), .int .i64 m]) ∧ Tr14 W w' b t L m
theorem goodOp_T {o : Opn} (h : goodOp o = true) : 1 ≤ o.At.T ∧ o.At.T ≤ 1099511627776 := by
  have := (goodOp_at h).1
  unfold rightS at this
  simp only [Bool.and_eq_true, decide_eq_true_eq] at this
  omega
theorem ins_now {L L' : List Opn} {o : Opn} {u E u' m : Int} (h : InsP L o u E L' u') (hT : ∀ p ∈ L, p.At.T ≤ m) (h0 : 0 ≤ m) (h1 : m ≤ 1099511627776) :
    (E = 0 → (∀ p ∈ L', p.At.T ≤ max m o.At.T) ∧ max m o.At.T ≤ 1099511627776) ∧ (E ≠ 0 → L' = L) := by
  rcases h with ⟨_, h2, h3, _⟩ | ⟨hg, p, hp, hpo, ⟨rfl, h3, h4, _⟩ | ⟨_, h3, h4, _⟩⟩ | ⟨hg, h2, L1, L2, rfl, rfl, _⟩
  · exact ⟨fun h => absurd (h2.symm.trans h) (by decide), fun _ => h3⟩
  · have := goodOp_T hg
    exact ⟨fun _ => ⟨fun q hq => by rw [h4] at hq; have := hT q hq; omega, by omega⟩, fun h => absurd h3 h⟩
  · exact ⟨fun h => absurd (h3.symm.trans h) (by decide), fun _ => h4⟩
  · have := goodOp_T hg
    refine ⟨fun _ => ⟨fun q hq => ?_, by omega⟩, fun h => absurd h2 h⟩
    rcases List.mem_append.1 hq with hq | hq
    · have := hT q (by simp [hq]); omega
    · rcases List.mem_cons.1 hq with rfl | hq
      · omega
      · have := hT q (by simp [hq]); omega
set_option maxRecDepth 100000 in
set_option maxHeartbeats 8000000 in
theorem tree14_any (W : World) (A : Option Addr) (c : Nat) (rs : List OpW) (xs : List Opn) (n : Nat) (hn : rs.length = n) (hs : Sl W A (codO.row rs)) (hb : rs.length ≤ 140737488355328) (hX : OpsIn W rs xs) :
    Calls Tryz.prog 7 #[.slice A n c] W (Tree14To W) := by
  subst hn
  have HX := Lib.hid (show AllO OpIn W rs xs from ⟨hX.len, fun i h1 h2 => hX.at_ i h1 h2⟩)
  have HS := Lib.hid hs
  have HB := Lib.hid hb
  clear hX hs hb
  go_enter Tryz.func7, Tryz.ntmps7
  go_upto_region 4 with (go_at_call 18; refine (gvNew_any _).mono ?_; rintro e w1 ⟨b, t0, rfl, h0, hu0, f1⟩)
  have hi0 : Tr14Loop W b rs.length rs.length (.int .i64 ((0 : Nat) : Int)) (.int .i64 0) w1 := ⟨0, t0, [], 0, rfl, rfl, rfl, Nat.zero_le _, by simp, h0, by simp [SrtL], by simp, by simp, by omega, by omega, f1⟩
  clear h0 f1 hu0
  go_loopg [11, 5] rs.length (fun gk iv nv wr => Tr14Loop W b rs.length gk iv nv wr)
  case atStart => exact hi0
  case round =>
    clear hi0
    obtain ⟨k, t, L, m, rfl, rfl, rfl, hk, hlk, hT⟩ := hrel
    have HT := Lib.hid hT
    have HLK := Lib.hid hlk
    have HK := Lib.hid hk
    clear hT hlk
    by_cases hlt : k < rs.length
    · have j0 : (0 : Int) ≤ (k : Int) := by omega
      have j1 : (k : Int) < (rs.length : Int) := by omega
      obtain ⟨g, off, rfl, hgg⟩ := HS.out.adC (by omega)
      have e1 : codO.rd wr g (off + k * 41) = some rs[k] := (HS.out.fr0 HT.out.fr).rd k hlt
      have hlx : k < xs.length := by rw [← HX.out.1]; exact hlt
      have hin := HX.out.2 k hlt hlx
      have HLT := Lib.hid hlt
      generalize rs[k] = r at e1 hin
      generalize xs[k] = x at hin
      have HIN := Lib.hid (hin.fr HT.out.fr)
      have hat : x.At = r.At := by rw [hin.eq]; rfl
      have HAT := Lib.hid hat
      have hov : x.Over.length ≤ 140737488355328 := hin.bd
      have HOV := Lib.hid hov
      clear hk hlt hgg hin hat hov
      go_upto_region 6 with fail
      have f12 : Fr noB wr (wr.alloc (codO.o r)) := (Fr.refl noB wr).alloc _
      have q12 := Cod.rd_new' (C := codO) wr r
      obtain ⟨D2, hD2⟩ : ∃ x, x = wr.heap.size := ⟨_, rfl⟩
      rw [← hD2] at q12 ⊢
      have HG12 := Lib.hid (HT.out.gv.fr0 f12)
      have HIN12 := Lib.hid (HIN.out.fr f12)
      have F12 := Lib.hid (HT.out.fr.step0 f12)
      have HOFF := Lib.hid (show ¬ trM b t D2 from HT.out.gv.off (Nat.le_of_eq hD2.symm))
      clear hD2 e1 f12
      generalize wr.alloc (codO.o r) = W12 at q12 HG12 HIN12 F12 ⊢
      by_cases hk30 : k < 30
      · have i30 : (k : Int) < 30 := by omega
        have HK30 := Lib.hid hk30
        clear hk30
        go_wp2_with (go_at_call 11; go_loud (refine (gvInsertX_any _ W12 b t L HG12.out HT.out.srt (by have := HT.out.len; omega) r x HIN12.out).mono ?_; rintro e w5 ⟨E, t5, L5, rfl, h5, m5, a5, f5, i5⟩; obtain ⟨u1, u2, u3, u4, u5, u6, u7, u8, u9, u10⟩ := opAt (Cod.rd_fr q12 f5 HOFF.out); clear u1 u3 u4 u5 u6 u7 u8 u9 u10 q12))
        · rename_i hE
          have hE0 : E = 0 := by simpa using hE
          obtain ⟨n1, n2⟩ := (ins_now i5 HT.out.T HT.out.m0 HT.out.m1).1 hE0
          rw [HAT.out] at n1 n2
          have hln := i5.len
          go_roundg (rs.length - (k + 1))
          case measure => have := HLT.out; omega
          case rel => exact ⟨k + 1, t5, L5, max m r.At.T, congrArg (Value.int .i64) (by simp), rfl, rfl, HLT.out, by have := HLK.out; omega, h5, i5.srt HT.out.srt, by have := HLK.out; have := HK30.out; omega, n1, by have := HT.out.m0; omega, n2, F12.out.step f5 (fun q hq => .inl (HG12.out.base hq))⟩
        · rename_i hE
          have hE0 : E ≠ 0 := by simpa using hE
          have hL := (ins_now i5 HT.out.T HT.out.m0 HT.out.m1).2 hE0
          have hln := i5.len
          go_roundg (rs.length - (k + 1))
          case measure => have := HLT.out; omega
          case rel => exact ⟨k + 1, t5, L5, m, congrArg (Value.int .i64) (by simp), rfl, rfl, HLT.out, by have := HLK.out; omega, h5, i5.srt HT.out.srt, by have := HLK.out; have := HK30.out; omega, by rw [hL]; exact HT.out.T, HT.out.m0, HT.out.m1, F12.out.step f5 (fun q hq => .inl (HG12.out.base hq))⟩
      · have i30 : ¬ (k : Int) < 30 := by omega
        clear hk30
        go_wp2_with fail
        go_roundg (rs.length - (k + 1))
        case measure => have := HLT.out; omega
        case rel => exact ⟨k + 1, t, L, m, congrArg (Value.int .i64) (IntWalk.wrap64_in _ (by have := HB.out; have := HLT.out; omega)), rfl, rfl, HLT.out, by have := HLK.out; omega, HG12.out, HT.out.srt, HT.out.len, HT.out.T, HT.out.m0, HT.out.m1, F12.out⟩
    · have j1 : ¬ (k : Int) < (rs.length : Int) := by omega
      clear hk hlt
      go_wp2_with fail
      refine bodyPost_ret (results_tmp2 rfl _ _ _) rfl ?_
      exact ⟨b, t, L, m, rfl, HT.out⟩
end Go.Proofs.YtefcalkbfaefgaaGreat
