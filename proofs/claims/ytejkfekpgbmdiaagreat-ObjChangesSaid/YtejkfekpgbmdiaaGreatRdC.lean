/- Contracts: bytes.Clone, obj.Blob, obj.Label. Contract: obj.Dir. Contract: obj.Change. -/
import Derived.Test.YtejkfekpgbmdiaaGreatGetT
import Derived.Test.YtejkfekpgbmdiaaGreatShelf
namespace Go.Proofs.YtejkfekpgbmdiaaGreat
open Go.RowKit
set_option linter.unusedVariables false
set_option linter.unusedSimpArgs false

theorem bclone_any (w : World) (A : Option Addr) (c n : Nat) (l : List UInt8) (hn : l.length = n) (hs : Sl w A (bv l)) (hb : l.length ≤ 140737488355328) : Calls Tryz.prog 37 #[.slice A n c] w (NewBytes w l) := by
  subst hn
  by_cases h0 : l = []
  · subst h0
    cases A with
    | none =>
      refine (Tryz.bytes_Clone_nil 0 c w).mono ?_
      rintro e w' ⟨rfl, rfl⟩
      exact ⟨none, 0, rfl, World.ownsRow_nil _ _ _ _, Fr.refl _ _⟩
    | some a =>
      refine (Tryz.bytes_Clone_at a 0 c [] w rfl (by decide) (fun i hi => by omega)).mono ?_
      rintro e w' ⟨v', rfl, ho, _, hbl⟩
      obtain ⟨A', c', rfl, _, _⟩ := own_form ho
      exact ⟨A', c', rfl, ho, Fr.ofBelow hbl⟩
  · obtain ⟨g, off, rfl, hg, hc⟩ := hs (bv_ne h0)
    refine (Tryz.bytes_Clone_at ⟨g, off, none⟩ l.length c (l.map fun b => (b.toNat : Int)) w (by simp) hb (fun i hi => by
      have := hc i _ (bv_get l i hi)
      have ea : (Addr.mk g off none).add i = ⟨g, off + i, none⟩ := by
        by_cases hi0 : i = 0
        · subst hi0; rfl
        · simp [Addr.add, hi0]
      rw [ea, this]
      simp [hi, u8v])).mono ?_
    rintro e w' ⟨v', rfl, ho, _, hbl⟩
    have e : (l.map fun b => (b.toNat : Int)).map (Value.int .u8) = bv l := by simp [bv, u8v]
    rw [e] at ho
    obtain ⟨A', c', rfl, _, _⟩ := own_form ho
    exact ⟨A', c', rfl, ho, Fr.ofBelow hbl⟩
/-- bytes and an error's number -/
def BlTo (w : World) (l : List UInt8) (e : Ending) (w' : World) : Prop :=
  ∃ A c, e = .returned (.tuple #[.slice A ((rdBl l).getD []).length c, .int .i64 (if (rdBl l).isSome then 0 else 20)]) ∧ w'.ownsRow w.heap.size 5 1 (.slice A ((rdBl l).getD []).length c) ((rdBl l).getD []).length (bv ((rdBl l).getD [])) ∧ Fr noB w w'
set_option maxRecDepth 100000 in
set_option maxHeartbeats 1000000 in
theorem blob_any (w : World) (A : Option Addr) (c n : Nat) (l : List UInt8) (hn : l.length = n) (hs : Sl w A (bv l)) (hcap : l.length ≤ c) (hb : l.length ≤ 140737488355328) : Calls Tryz.prog 11 #[.slice A n c] w (BlTo w l) := by
  subst hn
  cases l with
  | nil =>
    go_enter Tryz.func11, Tryz.ntmps11
    go_wp2_with fail
    refine bodyPost_ret (results_tmp2 rfl _ _ _) rfl ?_
    exact ⟨none, 0, rfl, World.ownsRow_nil _ _ _ _, Fr.refl _ _⟩
  | cons b t =>
    obtain ⟨g, off, rfl, hg, hcell⟩ := hs (by simp [bv_cons])
    have hc0 : w.cell? ⟨g, off, none⟩ = some (.int .u8 (b.toNat : Int)) := hcell 0 _ (bv_get (b :: t) 0 (by simp))
    have i0 : (((t.length + 1 : Nat) : Int) == 0) = false := by rw [beq_eq_false_iff_ne]; omega
    have i0' : (((t.length : Int) + 1) == 0) = false := by rw [beq_eq_false_iff_ne]; omega
    have i1 : (0 : Int) < ((t.length + 1 : Nat) : Int) := by omega
    have i1' : (0 : Int) < (t.length : Int) + 1 := by omega
    have i2 : (1 : Int) ≤ (t.length : Int) + 1 := by omega
    have hcut := hs.cutB (k := 1) (c := c) hcap
    simp only [List.length_cons] at hb hcap ⊢
    have hw : IntKind.i64.wrap ((t.length : Int) + 1 - 1) = (t.length : Int) := by rw [IntKind.wrap_i64]; omega
    have hw2 : IntKind.i64.wrap (((t.length + 1 : Nat) : Int) - 1) = (t.length : Int) := by rw [IntKind.wrap_i64]; omega
    by_cases hbk : b = 1
    · by_cases hl : t.length ≤ 4096
      · have e1 : rdBl (b :: t) = some t := by simp [rdBl, hbk, hl]
        have E1 := Lib.hid e1
        have e2 : ((b.toNat : Int) != 1) = false := by rw [hbk]; rfl
        have e3 : ¬ (4096 : Int) < (t.length : Int) := by omega
        clear hs hcell e1 hbk
        go_enter Tryz.func11, Tryz.ntmps11
        go_wp2_with (go_at_call 37; refine (bclone_any w _ _ _ t (by simp) hcut (by omega)).mono ?_; rintro e w1 ⟨A1, c1, rfl, ho1, hf1⟩)
        refine bodyPost_ret (results_tmp2 rfl _ _ _) rfl ?_
        unfold BlTo
        rw [E1.out]
        exact ⟨A1, c1, rfl, ho1, hf1⟩
      · have e1 : rdBl (b :: t) = none := by simp [rdBl, hl]
        have E1 := Lib.hid e1
        have e2 : ((b.toNat : Int) != 1) = false := by rw [hbk]; rfl
        have e3 : (4096 : Int) < (t.length : Int) := by omega
        clear hs hcell e1 hbk hcut
        go_enter Tryz.func11, Tryz.ntmps11
        go_wp2_with fail
        refine bodyPost_ret (results_tmp2 rfl _ _ _) rfl ?_
        unfold BlTo
        rw [E1.out]
        exact ⟨none, 0, rfl, World.ownsRow_nil _ _ _ _, Fr.refl _ _⟩
    · have e1 : rdBl (b :: t) = none := by simp [rdBl, hbk]
      have E1 := Lib.hid e1
      have e2 : ((b.toNat : Int) != 1) = true := by
        rw [bne_iff_ne]
        intro h
        exact hbk (UInt8.toNat_inj.1 (by show b.toNat = 1; omega))
      clear hs hcell e1 hcut
      go_enter Tryz.func11, Tryz.ntmps11
      go_wp2_with fail
      refine bodyPost_ret (results_tmp2 rfl _ _ _) rfl ?_
      unfold BlTo
      rw [E1.out]
      exact ⟨none, 0, rfl, World.ownsRow_nil _ _ _ _, Fr.refl _ _⟩
theorem openR_len (l : List UInt8) (k : UInt8) : (openR l k).1.length ≤ l.length := by
  unfold openR
  split
  · simp
  · split <;> simp
theorem open_z (w : World) (A : Option Addr) (c n : Nat) (l : List UInt8) (hn : l.length = n) (hs : Sl w A (bv l)) (hc : l.length ≤ c) (hb : l.length ≤ 140737488355328) (k : UInt8) (z : Int) (hk : (k.toNat : Int) = z) (s : RS) (hh : openR l k = s) :
    Calls Tryz.prog 45 #[.slice A n c, .int .u8 z] w (OpenTo w s) := by
  subst hk; subst hh; exact open_any w A c n l hn hs hc hb k
/-- a tag and an error's number -/
def LbTo (w : World) (l : List UInt8) (e : Ending) (w' : World) : Prop :=
  e = .returned (.tuple #[.agg (codL.A ((rdLb l).getD zLbl)), .int .i64 (if (rdLb l).isSome then 0 else 20)]) ∧ Fr noB w w'
set_option maxRecDepth 100000 in
set_option maxHeartbeats 4000000 in
theorem label_any (w : World) (A : Option Addr) (c n : Nat) (l : List UInt8) (hn : l.length = n) (hs : Sl w A (bv l)) (hcap : l.length ≤ c) (hlb : l.length ≤ 140737488355328) : Calls Tryz.prog 30 #[.slice A n c] w (LbTo w l) := by
  obtain ⟨s, e0⟩ : ∃ s, openR l 4 = s := ⟨_, rfl⟩
  have b0 := openR_len l 4
  rw [e0] at b0
  obtain ⟨tg, s1, e1⟩ := rd_eq rdId s
  have b1 := rdId_len s
  rw [e1] at b1
  obtain ⟨nm, s2, e2⟩ := rd_eq (rdText 60) s1
  have b2 := rdText_len 60 s1
  have c2 := rdText_le 60 s1
  rw [e2] at b2 c2
  obtain ⟨mg, s3, e3⟩ := rd_eq (rdText 200) s2
  have c3 := rdText_le 200 s2
  rw [e3] at c3
  simp only at b0 b1 b2 c2 c3
  have m0 : s.1.length ≤ 140737488355328 := by omega
  have m1 : s1.1.length ≤ 140737488355328 := by omega
  have m2 : s2.1.length ≤ 140737488355328 := by omega
  have hR : rdLb l = if s3 = ([], false) ∧ rightLb ⟨tg, nm, mg⟩ = true then some ⟨tg, nm, mg⟩ else none := by
    unfold rdLb
    rw [e0]
    dsimp only
    rw [e1]
    dsimp only
    rw [e2]
    dsimp only
    rw [e3]
  have HR := Lib.hid hR
  have E0 := Lib.hid e0
  have E1 := Lib.hid e1
  have E2 := Lib.hid e2
  have E3 := Lib.hid e3
  have C2 := Lib.hid c2
  have C3 := Lib.hid c3
  have f0 : Fr noB w (w.alloc (codL.o zLbl)) := (Fr.refl noB w).alloc _
  have q0 : codL.bxd (w.alloc (codL.o zLbl)) w.heap.size = some zLbl := Cod.bxd_new _ _
  have hz0 : (w.alloc (codL.o zLbl)).heap.size = w.heap.size + 1 := by simp
  have Z0 := Lib.hid hz0
  replace hs := hs.fr0 f0
  clear hR e0 e1 e2 e3 b0 b1 b2 c2 c3 hz0
  go_enter Tryz.func30, Tryz.ntmps30
  go_upto_region 1 with fail
  generalize w.alloc (codL.o zLbl) = w0 at f0 q0 hs Z0 ⊢
  generalize hRe : w.heap.size = R at q0 Z0 ⊢
  have hRw : w.heap.size ≤ R := by omega
  go_upto_region 2 with (go_at_call 45; refine (open_z w0 A c n l hn hs hcap hlb 4 4 rfl s E0.out).mono ?_; rintro e w1 ⟨p, Q, rfl, hr1, hQp, hQw, hwp, hwQ, hf1⟩)
  have q1 := Cod.bxd_fr0 q0 hf1
  have nRp : p ≠ R := by have := Z0.out; omega
  have nQR : ∀ b, Q b → b ≠ R := fun b hb => by have := Z0.out; have := hwQ b hb; omega
  have hf01 := f0.step0 hf1
  go_upto_region 3 with (go_at_call 63; refine (rid_z w1 p _ Q hr1 hQp hQw m0 _ _ E1.out).mono ?_; rintro e w2 ⟨rfl, hr2, hf2⟩)
  have q2 := Cod.bxd_fr q1 hf2 (fun e => nRp (by have : R = p := e; exact this.symm))
  have fn : Fr noB w2 (w2.alloc (codL.o { zLbl with Target := tg })) := (Fr.refl noB w2).alloc _
  have nP : ∀ b, Q b → b < w2.heap.size := fun b hb => by have := hQw b hb; have := hf2.size; omega
  have hb : RB codL noB w (w2.alloc (codL.o { zLbl with Target := tg })) p R w2.heap.size s1 Q zLbl { zLbl with Target := tg } :=
    ⟨hr2.fr fn (by simp [noB]) (by simp [noB]), Cod.bxd_fr0 q2 fn, Cod.bxd_new _ _, (hf01.step1 hf2 (by have := Z0.out; omega)).step0 fn, fun h => by have := Z0.out; omega, hRw, Nat.le_trans hf01.size hf2.size,
      by have := Cod.bxd_lt q2; omega, nRp, by have := hr2.lt; omega, fun b hb => ⟨nQR b hb, by have := nP b hb; omega⟩, hQp⟩
  clear hr1 hr2 hf1 hf2 hf01 q0 q1 q2 f0 nRp nQR hRw hwp hwQ hQw Z0
  generalize w2.alloc (codL.o { zLbl with Target := tg }) = W at hb fn ⊢
  generalize w2.heap.size = P at hb nP ⊢
  clear fn
  have k3 := (lbAt (Cod.bxd_rd hb.bx)).name
  have k4 := (Cod.bxd_blk hb.bx).frozen 32
  go_upto_region 4 with (go_at_call 65; refine (rtext_z _ p _ Q hb.rd hQp m1 60 60 rfl (by decide) _ _ E2.out).mono ?_; rintro e wz ⟨rfl, hr, hf⟩; replace hb := hb.call hr hf; have k3 := (lbAt (Cod.bxd_rd hb.bx)).name; have k4 := (Cod.bxd_blk hb.bx).frozen 32; clear hr hf)
  replace hb := hb.set 32 (.string (str nm)) { zLbl with Target := tg, Name := nm } (seL_Name _ nm)
  clear k3 k4
  generalize World.setCell _ _ _ = W at hb ⊢
  have k3 := (lbAt (Cod.bxd_rd hb.bx)).msg
  have k4 := (Cod.bxd_blk hb.bx).frozen 33
  go_upto_region 5 with (go_at_call 65; refine (rtext_z _ p _ Q hb.rd hQp m2 200 200 rfl (by decide) _ _ E3.out).mono ?_; rintro e wz ⟨rfl, hr, hf⟩; replace hb := hb.call hr hf; have k3 := (lbAt (Cod.bxd_rd hb.bx)).msg; have k4 := (Cod.bxd_blk hb.bx).frozen 33; clear hr hf)
  replace hb := hb.set 33 (.string (str mg)) ⟨tg, nm, mg⟩ (seL_Msg _ mg)
  clear k3 k4
  generalize World.setCell _ _ _ = W at hb ⊢
  have k5 := Cod.bxd_rd hb.bx
  have hrs := okL.stR_box hb.rs zLbl
  have hrs2 := okL.stR_box hb.rs ⟨tg, nm, mg⟩
  simp only [Cod.v] at hrs hrs2
  have hrl := Lib.hid (fun w => rightLabel_any w ⟨tg, nm, mg⟩ (by have := C2.out; simp only; omega) (by have := C3.out; simp only; omega))
  by_cases hdn : s3 = ([], false)
  · have D := Lib.hid (show decide (s3 = ([], false)) = true by simp [hdn])
    have D' := Lib.hid hdn
    clear hdn
    by_cases hrt : rightLb ⟨tg, nm, mg⟩ = true
    · have HL := Lib.hid (show rdLb l = some ⟨tg, nm, mg⟩ by rw [HR.out, if_pos ⟨D'.out, hrt⟩])
      go_wp2_with (first
        | (go_at_call 49; refine (done_any _ p _ Q hb.rd).mono ?_; rintro e wz ⟨rfl, rfl⟩; rw [D.out])
        | (go_at_call 70; refine (hrl.out _).mono ?_; rintro e wz ⟨rfl, hf⟩; rw [hrt]; replace hb := hb.new hf; have k5 := Cod.bxd_rd hb.bx; have hrs2 := okL.stR_box hb.rs ⟨tg, nm, mg⟩; simp only [Cod.v] at hrs2))
      have hbz := hb.res ⟨tg, nm, mg⟩
      refine bodyPost_ret (ret_row_tmp okL rfl _ _ R ⟨tg, nm, mg⟩ (by rfl) hbz.rs) rfl ?_
      unfold LbTo
      rw [HL.out]
      exact ⟨rfl, hbz.fr⟩
    · have hrt' : rightLb ⟨tg, nm, mg⟩ = false := by simpa using hrt
      have HL := Lib.hid (show rdLb l = none by rw [HR.out, if_neg (fun h => hrt h.2)])
      clear hrt
      go_wp2_with (first
        | (go_at_call 49; refine (done_any _ p _ Q hb.rd).mono ?_; rintro e wz ⟨rfl, rfl⟩; rw [D.out])
        | (go_at_call 70; refine (hrl.out _).mono ?_; rintro e wz ⟨rfl, hf⟩; rw [hrt']; replace hb := hb.new hf; have hrs := okL.stR_box hb.rs zLbl; simp only [Cod.v] at hrs))
      have hbz := hb.res zLbl
      refine bodyPost_ret (ret_row_tmp okL rfl _ _ R zLbl (by rfl) hbz.rs) rfl ?_
      unfold LbTo
      rw [HL.out]
      exact ⟨rfl, hbz.fr⟩
  · have D := Lib.hid (show decide (s3 = ([], false)) = false by simp [hdn])
    have HL := Lib.hid (show rdLb l = none by rw [HR.out, if_neg (fun h => hdn h.1)])
    clear hdn
    go_wp2_with (go_at_call 49; refine (done_any _ p _ Q hb.rd).mono ?_; rintro e wz ⟨rfl, rfl⟩; rw [D.out])
    have hbz := hb.res zLbl
    refine bodyPost_ret (ret_row_tmp okL rfl _ _ R zLbl (by rfl) hbz.rs) rfl ?_
    unfold LbTo
    rw [HL.out]
    exact ⟨rfl, hbz.fr⟩
end Go.Proofs.YtejkfekpgbmdiaaGreat
namespace Go.Proofs.YtejkfekpgbmdiaaGreat
open Go.RowKit
set_option linter.unusedVariables false
set_option linter.unusedSimpArgs false

/-- two rows of the call's own, of unlike types -/
theorem own_two {w w' : World} {b1 b2 : Nat} {e1 e2 : TypeId} {s1 s2 n1 n2 c1 : Nat} {A : Option Addr} {v : Value} {xs ys : List Value} (h1 : w.ownsRow b1 e1 s1 (.slice A n1 c1) n1 xs) (h2 : w.ownsRow b2 e2 s2 v n2 ys) (hne : e1 ≠ e2) (f : Fr (fun b => A.map (·.block) = some b) w w') : w'.ownsRow b2 e2 s2 v n2 ys := by
  refine own_fr h2 f (fun g hg hM => ?_)
  rcases h1.2 with ⟨hv, _⟩ | ⟨g1, cap, cur, hv, hb, hgg, rest⟩
  · injection hv with hv; subst hv; cases hM
  · injection hv with hv; subst hv
    simp only [Option.map_some, Option.some.injEq] at hM
    subst hM
    exact Blk.ne_own (g := g1) (t := e1) (cs := cur.toList) (by simpa [Blk] using hgg) h2 (fun e => hne e.symm) g1 hg rfl
/-- items that lie in new memory -/
structure ItsOwn (W w : World) (rs : List ItW) (xs : List It) : Prop where
  len : rs.length = xs.length
  at_ : ∀ i (h : i < rs.length) (h' : i < xs.length), ItIn w rs[i] xs[i] ∧ w.ownsRow W.heap.size 84 34 (.slice (rs[i]).A (rs[i]).n (rs[i]).c) (rs[i]).n (codH.row (xs[i]).Heads)
theorem ItsOwn.its {W w : World} {rs : List ItW} {xs : List It} (h : ItsOwn W w rs xs) : ItsIn w rs xs := ⟨h.len, fun i h1 h2 => (h.at_ i h1 h2).1⟩
theorem ItIn.of {w w' : World} {r : ItW} {x : It} (h : ItIn w r x) {base : Nat} (ho : w'.ownsRow base 84 34 (.slice r.A r.n r.c) r.n (codH.row x.Heads)) : ItIn w' r x := ⟨h.eq, h.len, Sl.own ho, h.bd, h.nm⟩
theorem ItsOwn.map {W w w' : World} {rs : List ItW} {xs : List It} (h : ItsOwn W w rs xs) (k : ∀ (v : Value) (n : Nat) (l : List Value), w.ownsRow W.heap.size 84 34 v n l → w'.ownsRow W.heap.size 84 34 v n l) : ItsOwn W w' rs xs :=
  ⟨h.len, fun i h1 h2 => by
    obtain ⟨a, b⟩ := h.at_ i h1 h2
    have b' := k _ _ _ b
    exact ⟨a.of b', b'⟩⟩
theorem ItsOwn.snoc {W w : World} {rs : List ItW} {xs : List It} (h : ItsOwn W w rs xs) {r : ItW} {x : It} (hi : ItIn w r x) (ho : w.ownsRow W.heap.size 84 34 (.slice r.A r.n r.c) r.n (codH.row x.Heads)) : ItsOwn W w (rs ++ [r]) (xs ++ [x]) :=
  ⟨by simp [h.len], fun i h1 h2 => by
    rcases Nat.lt_or_ge i rs.length with h3 | h3
    · have h4 : i < xs.length := by rw [← h.len]; exact h3
      rw [List.getElem_append_left h3, List.getElem_append_left h4]
      exact h.at_ i h3 h4
    · have h5 : i = rs.length := by simp at h1; omega
      have h6 : i = xs.length := by rw [← h.len]; exact h5
      have e1 : (rs ++ [r])[i] = r := by subst h5; simp
      have e2 : (xs ++ [x])[i] = x := by subst h6; simp
      rw [e1, e2]
      exact ⟨hi, ho⟩⟩
structure DS (W w : World) (p : Nat) (Q : Nat → Prop) (s : RS) (A : Option Addr) (c : Nat) (rs : List ItW) (xs : List It) : Prop where
  rd : Rdr w p s Q
  fr : Fr (oneB p) W w
  own : OwnC codT W w A c rs
  its : ItsOwn W w rs xs
section
variable {W w w' : World} {p : Nat} {Q : Nat → Prop} {s s' : RS} {A : Option Addr} {c : Nat} {rs : List ItW} {xs : List It}
theorem DS.call (h : DS W w p Q s A c rs xs) (hr : Rdr w' p s' Q) (f : Fr (oneB p) w w') : DS W w' p Q s' A c rs xs := by
  obtain ⟨Ar, cr, hb, _⟩ := id h.rd
  exact ⟨hr, h.fr.trans f (fun b _ h => h), own_box hb h.own (by decide) f, h.its.map fun v n l ho => own_box hb ho (by decide) f⟩
theorem DS.new (h : DS W w p Q s A c rs xs) (f : Fr noB w w') : DS W w' p Q s A c rs xs :=
  ⟨h.rd.fr f (by simp [noB]) (by simp [noB]), h.fr.step0 f, own_new0 h.own f, h.its.map fun v n l ho => own_new0 ho f⟩
theorem DS.grow (h : DS W w p Q s A c rs xs) (hQ : ∀ b, Q b → b < W.heap.size) (hp : p < W.heap.size) (hg : w.grownBy w' (A.map (·.block))) {A5 : Option Addr} {c5 : Nat} {r : ItW} {x : It} (ho5 : OwnC codT W w' A5 c5 (rs ++ [r])) (hi : ItIn w r x) (hro : w.ownsRow W.heap.size 84 34 (.slice r.A r.n r.c) r.n (codH.row x.Heads)) :
    DS W w' p Q s A5 c5 (rs ++ [r]) (xs ++ [x]) := by
  have f : Fr (fun b => A.map (·.block) = some b) w w' := Fr.ofGrown hg (fun g hg => hg)
  have hro' := own_two h.own hro (by decide) f
  refine ⟨h.rd.fr f (fun e => ?_) (fun b hb e => ?_), h.fr.step f (fun b hb => .inl (own_lt h.own b hb).1), ho5, (h.its.map fun v n l ho => own_two h.own ho (by decide) f).snoc (hi.of hro') hro'⟩
  · have := (own_lt h.own p e).1; omega
  · have := (own_lt h.own b e).1; have := hQ b hb; omega
end
/-- items and an error's number -/
def DrTo (w : World) (l : List UInt8) (e : Ending) (w' : World) : Prop :=
  ∃ A c rs, e = .returned (.tuple #[.slice A rs.length c, .int .i64 (if (rdDr l).isSome then 0 else 20)]) ∧ Fr noB w w' ∧ OwnC codT w w' A c rs ∧ ItsOwn w w' rs ((rdDr l).getD [])
def DrR (W : World) (p n mx : Nat) (Q : Nat → Prop) (tot : List It × RS) (gk : Nat) (v iv : Value) (wr : World) : Prop :=
  ∃ (k : Nat) (rs : List ItW) (xs : List It) (s : RS) (A : Option Addr) (c : Nat), v = .slice A rs.length c ∧ iv = .int .i64 (k : Int) ∧ gk = n - k ∧ k ≤ n ∧ rs.length = k ∧ s.1.length ≤ mx ∧ DS W wr p Q s A c rs xs ∧ tot = (xs ++ (rdMany rdIt (n - k) s).1, (rdMany rdIt (n - k) s).2)
theorem rdIt_len (s : RS) : (rdIt s).2.1.length ≤ s.1.length := by
  unfold rdIt
  dsimp only
  exact Nat.le_trans (rdMany_len rdHd_len _ _).2 (Nat.le_trans (rdNum_bd _ _).2 (Nat.le_trans (rdId_len _) (Nat.le_trans (rdText_len _ _) (Nat.le_trans (rdSt_len _) (rdSt_len _)))))
theorem getT_z (w : World) (p : Nat) (s : RS) (Q : Nat → Prop) (h : Rdr w p s Q) (hQw : ∀ b, Q b → b < w.heap.size) (hQp : ¬ Q p) (hlen : s.1.length ≤ 140737488355328) (x : It) (s' : RS) (hh : rdIt s = (x, s')) :
    Calls Tryz.prog 47 #[.pointer (some ⟨p, 0, none⟩)] w fun e w' => ∃ r, e = .returned (.agg (codT.A r)) ∧ ItIn w' r x ∧ w'.ownsRow w.heap.size 84 34 (.slice r.A r.n r.c) r.n (codH.row x.Heads) ∧ Rdr w' p s' Q ∧ Fr (oneB p) w w' := by
  refine (getT_any w p s Q h hQw hQp hlen).mono ?_
  rintro e w' ⟨r, rfl, h1, h2, h3, h4⟩
  rw [hh] at h1 h2 h3
  exact ⟨r, rfl, h1, h2, h3, h4⟩
set_option maxRecDepth 100000 in
set_option maxHeartbeats 1000000 in
theorem dir_any (w : World) (A : Option Addr) (c n : Nat) (l : List UInt8) (hn : l.length = n) (hs : Sl w A (bv l)) (hcap : l.length ≤ c) (hlb : l.length ≤ 140737488355328) : Calls Tryz.prog 17 #[.slice A n c] w (DrTo w l) := by
  obtain ⟨s, e0⟩ : ∃ s, openR l 2 = s := ⟨_, rfl⟩
  have b0 := openR_len l 2
  rw [e0] at b0
  obtain ⟨m, s1, e1⟩ := rd_eq (rdNum 1000) s
  have b1 := rdNum_bd 1000 s
  rw [e1] at b1
  simp only at b0 b1
  have m0 : s.1.length ≤ 140737488355328 := by omega
  have m1 : s1.1.length ≤ 140737488355328 := by omega
  have n1000 : m ≤ 1000 := b1.1
  obtain ⟨tot, htot⟩ : ∃ tot, tot = rdMany rdIt m s1 := ⟨_, rfl⟩
  have hR : rdDr l = if tot.2 = ([], false) ∧ rightDr tot.1 = true then some tot.1 else none := by
    unfold rdDr
    rw [e0]
    dsimp only
    rw [e1]
    dsimp only
    rw [← htot]
  have HR := Lib.hid hR
  have E0 := Lib.hid e0
  have E1 := Lib.hid e1
  have HT := Lib.hid htot
  clear hR e0 e1 b0 b1 htot
  go_enter Tryz.func17, Tryz.ntmps17
  go_upto_region 2 with (go_at_call 45; refine (open_z w A c n l hn hs hcap hlb 2 2 rfl s E0.out).mono ?_; rintro e w1 ⟨p, Q, rfl, hr1, hQp, hQw, hwp, hwQ, hf1⟩)
  have lp := hr1.lt
  have hd : DS w1 w1 p Q s none 0 [] [] := ⟨hr1, Fr.refl _ _, World.ownsRow_nil _ _ _ _, ⟨rfl, fun i h => absurd h (by simp)⟩⟩
  clear hr1
  go_wp2_with (go_at_call 46; refine (num_z _ p s Q 1000 1000 rfl (by decide) hd.rd m0 m s1 E1.out).mono ?_; rintro e w2 ⟨rfl, hr2, hf2⟩; replace hd := hd.call hr2 hf2; clear hr2 hf2)
  go_loopg [5, 10] m (fun gk v iv wr => DrR w1 p m 140737488355328 Q tot gk v iv wr)
  case atStart => exact ⟨0, [], [], s1, none, 0, rfl, rfl, by omega, by omega, rfl, m1, hd, by rw [HT.out]; simp⟩
  case round =>
    obtain ⟨k, rs, xs, sk, A5, c5, rfl, rfl, rfl, hk, hl, hmx, hd, htot⟩ := hrel
    by_cases hlt : k < m
    · have i1 : (k : Int) < (m : Int) := by omega
      have bx := rdIt_len sk
      obtain ⟨x, sn, ex⟩ := rd_eq rdIt sk
      rw [ex] at bx
      have EX := Lib.hid ex
      have hmn : sn.1.length ≤ 140737488355328 := Nat.le_trans bx hmx
      clear ex
      have HT2 := Lib.hid htot
      have HL := Lib.hid hl
      have HLT := Lib.hid hlt
      clear bx htot hl hlt
      go_upto_region 6 with (first
        | (go_at_call 47; refine (getT_z _ p sk Q hd.rd (fun b h => Nat.lt_of_lt_of_le (hQw b h) hd.fr.size) hQp hmx x sn EX.out).mono ?_; rintro e w4 ⟨r, rfl, hin, hro, hr4, hf4⟩; replace hro := own_base hro hd.fr.size; replace hd := hd.call hr4 hf4; have fn : Fr noB w4 (w4.alloc (codT.ro [r])) := (Fr.refl noB w4).alloc _; have sl := Cod.sl_new (C := codT) w4 [r]; replace hd := hd.new fn; replace hin := hin.fr fn; replace hro := own_new0 hro fn; clear fn hf4 hr4)
        | (at_builtin; refine wpList_appC' etT w1 _ rfl _ _ rfl A5 rs.length c5 rs rfl rfl hd.own (some ⟨w4.heap.size, 0, none⟩) 1 1 [r] rfl sl rfl (by have := HL.out; have := HLT.out; simp; omega) hd.fr.size ?_; intro A6 c6 w6 hc6 hm6 ho6 hg6 hA6; replace hd := hd.grow hQw lp hg6 ho6 hin hro; obtain ⟨rs', hrs'⟩ : ∃ rs', rs' = rs ++ [r] := ⟨_, rfl⟩; rw [← hrs'] at hd ⊢; have HRS := Lib.hid hrs'; clear hrs'))
      have hrl : rs'.length = k + 1 := by rw [HRS.out]; simp [HL.out]
      have hrb : rs'.length ≤ 140737488355328 := by have := HLT.out; omega
      have HRL := Lib.hid hrl
      clear hrl
      have hlt := HLT.out
      by_cases hgb : sn.2 = true
      · have HTF := Lib.hid (show tot = (xs ++ [x], sn) by rw [HT2.out, show m - k = m - (k + 1) + 1 by omega, rdMany_stop _ _ _ _ _ _ EX.out hgb])
        have HGB := Lib.hid hgb
        clear hgb
        have hit := hd.its.its
        have hrow := hd.own
        have hfin : Fr noB w w6 := hf1.step hd.fr (fun b hb => .inl (by have : b = p := hb; omega))
        have HRD := Lib.hid (fun w'' (f : Fr noB w6 w'') => rightDir_any w'' A6 c6 rs'.length rs' (xs ++ [x]) rfl ((Sl.own hrow).fr0 f) hrb (hit.fr f))
        by_cases hdn : sn = ([], false)
        · have D := Lib.hid (show decide (sn = ([], false)) = true by simp [hdn])
          have D' := Lib.hid hdn
          clear hdn
          by_cases hrt : rightDr (xs ++ [x]) = true
          · have HL := Lib.hid (show rdDr l = some (xs ++ [x]) by rw [HR.out, HTF.out]; exact if_pos ⟨D'.out, hrt⟩)
            go_wp2_with (first
              | (go_at_call 48; refine (good_any _ p _ Q hd.rd).mono ?_; rintro e wz ⟨rfl, rfl⟩; rw [HGB.out])
              | (go_at_call 49; refine (done_any _ p _ Q hd.rd).mono ?_; rintro e wz ⟨rfl, rfl⟩; rw [D.out])
              | (go_at_call 38; refine (HRD.out _ (Fr.refl _ _)).mono ?_; rintro e wz ⟨rfl, hf⟩; rw [hrt]; replace hd := hd.new hf; replace hfin := hfin.step0 hf))
            refine bodyPost_ret (results_tmp2 rfl _ _ _) rfl ?_
            refine ⟨A6, c6, rs', by rw [HL.out]; rfl, hfin, own_base hd.own hf1.size, ?_⟩
            rw [HL.out]
            exact ⟨hd.its.len, fun i h1 h2 => ⟨(hd.its.at_ i h1 h2).1, own_base (hd.its.at_ i h1 h2).2 hf1.size⟩⟩
          · have hrt' : rightDr (xs ++ [x]) = false := by simpa using hrt
            have HL := Lib.hid (show rdDr l = none by rw [HR.out, HTF.out]; exact if_neg (fun h => hrt h.2))
            clear hrt
            go_wp2_with (first
              | (go_at_call 48; refine (good_any _ p _ Q hd.rd).mono ?_; rintro e wz ⟨rfl, rfl⟩; rw [HGB.out])
              | (go_at_call 49; refine (done_any _ p _ Q hd.rd).mono ?_; rintro e wz ⟨rfl, rfl⟩; rw [D.out])
              | (go_at_call 38; refine (HRD.out _ (Fr.refl _ _)).mono ?_; rintro e wz ⟨rfl, hf⟩; rw [hrt']; replace hfin := hfin.step0 hf))
            refine bodyPost_ret (results_tmp2 rfl _ _ _) rfl ?_
            refine ⟨none, 0, [], by rw [HL.out]; rfl, hfin, World.ownsRow_nil _ _ _ _, ?_⟩
            rw [HL.out]
            exact ⟨rfl, fun i h => absurd h (by simp)⟩
        · have D := Lib.hid (show decide (sn = ([], false)) = false by simp [hdn])
          have HL := Lib.hid (show rdDr l = none by rw [HR.out, HTF.out]; exact if_neg (fun h => hdn h.1))
          clear hdn
          go_wp2_with (first
            | (go_at_call 48; refine (good_any _ p _ Q hd.rd).mono ?_; rintro e wz ⟨rfl, rfl⟩; rw [HGB.out])
            | (go_at_call 49; refine (done_any _ p _ Q hd.rd).mono ?_; rintro e wz ⟨rfl, rfl⟩; rw [D.out]))
          refine bodyPost_ret (results_tmp2 rfl _ _ _) rfl ?_
          refine ⟨none, 0, [], by rw [HL.out]; rfl, hfin, World.ownsRow_nil _ _ _ _, ?_⟩
          rw [HL.out]
          exact ⟨rfl, fun i h => absurd h (by simp)⟩
      · have hgb' : sn.2 = false := by simpa using hgb
        go_wp2_with (go_at_call 48; refine (good_any _ p _ Q hd.rd).mono ?_; rintro e wz ⟨rfl, rfl⟩; rw [hgb'])
        go_roundg (m - (k + 1))
        case measure => omega
        case rel =>
          exact ⟨k + 1, rs', xs ++ [x], sn, A6, c6, rfl, by simp, rfl, by omega, HRL.out, hmn, hd, by
            rw [HT2.out, show m - k = m - (k + 1) + 1 by omega, rdMany_step _ _ _ _ _ _ EX.out hgb']⟩
    · have hkn : k = m := by omega
      subst hkn
      have i1 : ¬ (k : Int) < (k : Int) := by omega
      rw [Nat.sub_self] at htot
      simp only [rdMany, List.append_nil] at htot
      have HTF := Lib.hid htot
      have hrb : rs.length ≤ 140737488355328 := by omega
      clear htot hl
      have hit := hd.its.its
      have hrow := hd.own
      have hfin : Fr noB w wr := hf1.step hd.fr (fun b hb => .inl (by have : b = p := hb; omega))
      have HRD := Lib.hid (fun w'' (f : Fr noB wr w'') => rightDir_any w'' A5 c5 rs.length rs xs rfl ((Sl.own hrow).fr0 f) hrb (hit.fr f))
      by_cases hdn : sk = ([], false)
      · have D := Lib.hid (show decide (sk = ([], false)) = true by simp [hdn])
        have D' := Lib.hid hdn
        clear hdn
        by_cases hrt : rightDr xs = true
        · have HL := Lib.hid (show rdDr l = some xs by rw [HR.out, HTF.out]; exact if_pos ⟨D'.out, hrt⟩)
          go_wp2_with (first
            | fail
            | (go_at_call 49; refine (done_any _ p _ Q hd.rd).mono ?_; rintro e wz ⟨rfl, rfl⟩; rw [D.out])
            | (go_at_call 38; refine (HRD.out _ (Fr.refl _ _)).mono ?_; rintro e wz ⟨rfl, hf⟩; rw [hrt]; replace hd := hd.new hf; replace hfin := hfin.step0 hf))
          refine bodyPost_ret (results_tmp2 rfl _ _ _) rfl ?_
          refine ⟨A5, c5, rs, by rw [HL.out]; rfl, hfin, own_base hd.own hf1.size, ?_⟩
          rw [HL.out]
          exact ⟨hd.its.len, fun i h1 h2 => ⟨(hd.its.at_ i h1 h2).1, own_base (hd.its.at_ i h1 h2).2 hf1.size⟩⟩
        · have hrt' : rightDr xs = false := by simpa using hrt
          have HL := Lib.hid (show rdDr l = none by rw [HR.out, HTF.out]; exact if_neg (fun h => hrt h.2))
          clear hrt
          go_wp2_with (first
            | fail
            | (go_at_call 49; refine (done_any _ p _ Q hd.rd).mono ?_; rintro e wz ⟨rfl, rfl⟩; rw [D.out])
            | (go_at_call 38; refine (HRD.out _ (Fr.refl _ _)).mono ?_; rintro e wz ⟨rfl, hf⟩; rw [hrt']; replace hfin := hfin.step0 hf))
          refine bodyPost_ret (results_tmp2 rfl _ _ _) rfl ?_
          refine ⟨none, 0, [], by rw [HL.out]; rfl, hfin, World.ownsRow_nil _ _ _ _, ?_⟩
          rw [HL.out]
          exact ⟨rfl, fun i h => absurd h (by simp)⟩
      · have D := Lib.hid (show decide (sk = ([], false)) = false by simp [hdn])
        have HL := Lib.hid (show rdDr l = none by rw [HR.out, HTF.out]; exact if_neg (fun h => hdn h.1))
        clear hdn
        go_wp2_with (first
          | fail
          | (go_at_call 49; refine (done_any _ p _ Q hd.rd).mono ?_; rintro e wz ⟨rfl, rfl⟩; rw [D.out]))
        refine bodyPost_ret (results_tmp2 rfl _ _ _) rfl ?_
        refine ⟨none, 0, [], by rw [HL.out]; rfl, hfin, World.ownsRow_nil _ _ _ _, ?_⟩
        rw [HL.out]
        exact ⟨rfl, fun i h => absurd h (by simp)⟩
end Go.Proofs.YtejkfekpgbmdiaaGreat
namespace Go.Proofs.YtejkfekpgbmdiaaGreat
open Go.RowKit
set_option linter.unusedVariables false
set_option linter.unusedSimpArgs false

def codI : Cod ID := ⟨45, 32, fun x => bv x.1, zID, fun x => by rw [bv_length, x.2], by decide, fun x => bv_one x.1, fun x y h => Subtype.ext (bv_inj h)⟩
theorem etI : ET Tryz.prog 39 codI.t codI.n 32 := etIDs
theorem row_I (l : List ID) : codI.row l = idc l := rfl
theorem ex_bsI_at {ρ : Operand → Value} {o : Oper} {a : Operand} {w : World} {x : ID} (ho : o.op = .buildSlice 39 1 #[(0, a)]) (ha : ρ a = encI x) : (execOp ρ o).run Tryz.prog w = .ok (.value (.slice (some ⟨w.heap.size, 0, none⟩) 1 1)) (w.alloc (rowo [x])) := by
  obtain ⟨d, op, t, p, f, g⟩ := o
  simp only at ho
  subst ho
  rw [ex_bs1, ha, bsI1_at]
/-- operations that lie in new memory -/
structure OpsOwn (W w : World) (rs : List OpW) (xs : List Opn) : Prop where
  len : rs.length = xs.length
  at_ : ∀ i (h : i < rs.length) (h' : i < xs.length), OpIn w rs[i] xs[i] ∧ w.ownsRow W.heap.size 69 2 (.slice (rs[i]).A (rs[i]).n (rs[i]).c) (rs[i]).n (codS.row (xs[i]).Over)
theorem OpsOwn.ops {W w : World} {rs : List OpW} {xs : List Opn} (h : OpsOwn W w rs xs) : OpsIn w rs xs := ⟨h.len, fun i h1 h2 => (h.at_ i h1 h2).1⟩
theorem OpIn.of {w w' : World} {r : OpW} {x : Opn} (h : OpIn w r x) {base : Nat} (ho : w'.ownsRow base 69 2 (.slice r.A r.n r.c) r.n (codS.row x.Over)) : OpIn w' r x := ⟨h.eq, h.len, Sl.own ho, h.bd, h.nm⟩
theorem OpsOwn.map {W w w' : World} {rs : List OpW} {xs : List Opn} (h : OpsOwn W w rs xs) (k : ∀ (v : Value) (n : Nat) (l : List Value), w.ownsRow W.heap.size 69 2 v n l → w'.ownsRow W.heap.size 69 2 v n l) : OpsOwn W w' rs xs :=
  ⟨h.len, fun i h1 h2 => by
    obtain ⟨a, b⟩ := h.at_ i h1 h2
    have b' := k _ _ _ b
    exact ⟨a.of b', b'⟩⟩
theorem OpsOwn.snoc {W w : World} {rs : List OpW} {xs : List Opn} (h : OpsOwn W w rs xs) {r : OpW} {x : Opn} (hi : OpIn w r x) (ho : w.ownsRow W.heap.size 69 2 (.slice r.A r.n r.c) r.n (codS.row x.Over)) : OpsOwn W w (rs ++ [r]) (xs ++ [x]) :=
  ⟨by simp [h.len], fun i h1 h2 => by
    rcases Nat.lt_or_ge i rs.length with h3 | h3
    · have h4 : i < xs.length := by rw [← h.len]; exact h3
      rw [List.getElem_append_left h3, List.getElem_append_left h4]
      exact h.at_ i h3 h4
    · have h5 : i = rs.length := by simp at h1; omega
      have h6 : i = xs.length := by rw [← h.len]; exact h5
      have e1 : (rs ++ [r])[i] = r := by subst h5; simp
      have e2 : (xs ++ [x])[i] = x := by subst h6; simp
      rw [e1, e2]
      exact ⟨hi, ho⟩⟩
/-- the rows of a commit under way -/
structure Rws (W w : World) (A : Option Addr) (c : Nat) (ps : List ID) (B : Option Addr) (d : Nat) (rs : List OpW) (os : List Opn) : Prop where
  hps : OwnC codI W w A c ps
  hrs : OwnC codO W w B d rs
  hos : OpsOwn W w rs os
section
variable {W w w' : World} {A B : Option Addr} {c d : Nat} {ps : List ID} {rs : List OpW} {os : List Opn}
theorem Rws.box (h : Rws W w A c ps B d rs os) {g : Nat} {t : TypeId} {cs : List Value} (hb : Blk w g t cs) (h1 : 45 ≠ t) (h2 : 72 ≠ t) (h3 : 69 ≠ t) (f : Fr (oneB g) w w') : Rws W w' A c ps B d rs os :=
  ⟨own_box hb h.hps h1 f, own_box hb h.hrs h2 f, h.hos.map fun v n l ho => own_box hb ho h3 f⟩
theorem Rws.new (h : Rws W w A c ps B d rs os) (f : Fr noB w w') : Rws W w' A c ps B d rs os := ⟨own_new0 h.hps f, own_new0 h.hrs f, h.hos.map fun v n l ho => own_new0 ho f⟩
theorem Rws.rdr (h : Rws W w A c ps B d rs os) {p : Nat} {s : RS} {Q : Nat → Prop} (hr : Rdr w p s Q) (f : Fr (oneB p) w w') : Rws W w' A c ps B d rs os := by
  obtain ⟨Ar, cr, hb, _⟩ := hr
  exact h.box hb (by decide) (by decide) (by decide) f
theorem Rws.var (h : Rws W w A c ps B d rs os) {P : Nat} {r : CgW} (hb : codC.bxd w P = some r) (f : Fr (oneB P) w w') : Rws W w' A c ps B d rs os := h.box (Cod.bxd_blk hb) (by decide) (by decide) (by decide) f
theorem Rws.growP (h : Rws W w A c ps B d rs os) (hg : w.grownBy w' (A.map (·.block))) {A5 : Option Addr} {c5 : Nat} {ps' : List ID} (ho : OwnC codI W w' A5 c5 ps') : Rws W w' A5 c5 ps' B d rs os := by
  have f : Fr (fun b => A.map (·.block) = some b) w w' := Fr.ofGrown hg (fun g hg => hg)
  exact ⟨ho, own_two h.hps h.hrs (by decide) f, h.hos.map fun v n l hv => own_two h.hps hv (by decide) f⟩
theorem Rws.growO (h : Rws W w A c ps B d rs os) (hg : w.grownBy w' (B.map (·.block))) {B5 : Option Addr} {d5 : Nat} {r : OpW} {x : Opn} (ho : OwnC codO W w' B5 d5 (rs ++ [r])) (hi : OpIn w r x) (hro : w.ownsRow W.heap.size 69 2 (.slice r.A r.n r.c) r.n (codS.row x.Over)) : Rws W w' A c ps B5 d5 (rs ++ [r]) (os ++ [x]) := by
  have f : Fr (fun b => B.map (·.block) = some b) w w' := Fr.ofGrown hg (fun g hg => hg)
  have hro' := own_two h.hrs hro (by decide) f
  exact ⟨own_two h.hrs h.hps (by decide) f, ho, (h.hos.map fun v n l hv => own_two h.hrs hv (by decide) f).snoc (hi.of hro') hro'⟩
theorem Rws.base {W0 : World} (h : Rws W w A c ps B d rs os) (hW : W0.heap.size ≤ W.heap.size) : Rws W0 w A c ps B d rs os :=
  ⟨own_base h.hps hW, own_base h.hrs hW, ⟨h.hos.len, fun i h1 h2 => ⟨(h.hos.at_ i h1 h2).1, own_base (h.hos.at_ i h1 h2).2 hW⟩⟩⟩
end
theorem getO_z (w : World) (p : Nat) (s : RS) (Q : Nat → Prop) (h : Rdr w p s Q) (hQw : ∀ b, Q b → b < w.heap.size) (hQp : ¬ Q p) (hlen : s.1.length ≤ 140737488355328) (x : Opn) (s' : RS) (hh : rdOp s = (x, s')) :
    Calls Tryz.prog 64 #[.pointer (some ⟨p, 0, none⟩)] w fun e w' => ∃ r, e = .returned (.agg (codO.A r)) ∧ OpIn w' r x ∧ w'.ownsRow w.heap.size 69 2 (.slice r.A r.n r.c) r.n (codS.row x.Over) ∧ Rdr w' p s' Q ∧ Fr (oneB p) w w' := by
  refine (getO_any w p s Q h hQw hQp hlen).mono ?_
  rintro e w' ⟨r, rfl, h1, h2, h3, h4⟩
  rw [hh] at h1 h2 h3
  exact ⟨r, rfl, h1, h2, h3, h4⟩
theorem rdOp_len (s : RS) : (rdOp s).2.1.length ≤ s.1.length := by
  unfold rdOp
  split
  · simp
  · unfold rdOp0
    dsimp only
    split
    · exact Nat.le_trans (rdText_len _ _) (Nat.le_trans (rdSt_len _) (Nat.le_trans (rdSt_len _) (Nat.le_trans (rdSt_len _) (rdNum_bd _ _).2)))
    · exact Nat.le_trans (rdAll_len rdSt_len _ _).2 (Nat.le_trans (rdNum_bd _ _).2 (Nat.le_trans (rdId_len _) (Nat.le_trans (rdSt_len _) (Nat.le_trans (rdSt_len _) (rdNum_bd _ _).2))))
/-- a commit and an error's number -/
def ChTo (w : World) (l : List UInt8) (e : Ending) (w' : World) : Prop :=
  ∃ r rs, e = .returned (.tuple #[.agg (codC.A r), .int .i64 (if (rdCh l).isSome then 0 else 20)]) ∧ Fr noB w w' ∧ (rdCh l = none → r = zCgW) ∧ (∀ c, rdCh l = some c → CgIn w' r rs c ∧ r.pn = c.Parents.length ∧ r.on = rs.length ∧ Rws w w' r.PA r.pc c.Parents r.OA r.oc rs c.Ops)
def PaR (w W1 : World) (p R P n mx : Nat) (Q : Nat → Prop) (tot : List ID × RS) (gk : Nat) (iv : Value) (wr : World) : Prop :=
  ∃ (k : Nat) (ps : List ID) (s : RS) (A : Option Addr) (c : Nat), iv = .int .i64 (k : Int) ∧ gk = n - k ∧ k ≤ n ∧ ps.length = k ∧ s.1.length ≤ mx ∧ W1.heap.size ≤ wr.heap.size ∧ RB codC noB w wr p R P s Q zCgW { zCgW with PA := A, pn := ps.length, pc := c } ∧ Rws W1 wr A c ps none 0 [] [] ∧ tot = (ps ++ (rdAll rdId (n - k) s).1, (rdAll rdId (n - k) s).2)
def OpR (w W1 : World) (p R P n mx : Nat) (Q : Nat → Prop) (r0 : CgW) (A : Option Addr) (c : Nat) (ps : List ID) (tot : List Opn × RS) (gk : Nat) (iv : Value) (wr : World) : Prop :=
  ∃ (k : Nat) (rs : List OpW) (os : List Opn) (s : RS) (B : Option Addr) (d : Nat), iv = .int .i64 (k : Int) ∧ gk = n - k ∧ k ≤ n ∧ rs.length = k ∧ s.1.length ≤ mx ∧ W1.heap.size ≤ wr.heap.size ∧ RB codC noB w wr p R P s Q zCgW { r0 with OA := B, on := rs.length, oc := d } ∧ Rws W1 wr A c ps B d rs os ∧ tot = (os ++ (rdAll rdOp (n - k) s).1, (rdAll rdOp (n - k) s).2)
set_option maxRecDepth 100000 in
set_option maxHeartbeats 4000000 in
theorem change_any (w : World) (A : Option Addr) (c n : Nat) (l : List UInt8) (hn : l.length = n) (hs : Sl w A (bv l)) (hcap : l.length ≤ c) (hlb : l.length ≤ 140737488355328) : Calls Tryz.prog 25 #[.slice A n c] w (ChTo w l) := by
  obtain ⟨s, e0⟩ : ∃ s, openR l 3 = s := ⟨_, rfl⟩
  have b0 := openR_len l 3
  rw [e0] at b0
  obtain ⟨pn, s1, e1⟩ := rd_eq (rdNum 2) s
  have b1 := rdNum_bd 2 s
  rw [e1] at b1
  obtain ⟨ps, s2, e2⟩ := rd_eq (rdAll rdId pn) s1
  have b2 := rdAll_len rdId_len pn s1
  rw [e2] at b2
  obtain ⟨ti, s3, e3⟩ := rd_eq (rdNum 1099511627776) s2
  have b3 := rdNum_bd 1099511627776 s2
  rw [e3] at b3
  obtain ⟨re, s4, e4⟩ := rd_eq (rdNum 65536) s3
  have b4 := rdNum_bd 65536 s3
  rw [e4] at b4
  obtain ⟨on, s5, e5⟩ := rd_eq (rdNum 64) s4
  have b5 := rdNum_bd 64 s4
  rw [e5] at b5
  obtain ⟨os, s6, e6⟩ := rd_eq (rdAll rdOp on) s5
  have b6 := rdAll_len rdOp_len on s5
  rw [e6] at b6
  obtain ⟨tr, s7, e7⟩ := rd_eq rdId s6
  have b7 := rdId_len s6
  rw [e7] at b7
  obtain ⟨mg, s8, e8⟩ := rd_eq (rdText 200) s7
  have c8 := rdText_le 200 s7
  rw [e8] at c8
  simp only at b0 b1 b2 b3 b4 b5 b6 b7 c8
  have m0 : s.1.length ≤ 140737488355328 := by omega
  have m1 : s1.1.length ≤ 140737488355328 := by omega
  have m2 : s2.1.length ≤ 140737488355328 := by omega
  have m3 : s3.1.length ≤ 140737488355328 := by omega
  have m4 : s4.1.length ≤ 140737488355328 := by omega
  have m5 : s5.1.length ≤ 140737488355328 := by omega
  have m6 : s6.1.length ≤ 140737488355328 := by omega
  have m7 : s7.1.length ≤ 140737488355328 := by omega
  have pn2 : pn ≤ 2 := b1.1
  have on64 : on ≤ 64 := b5.1
  have hR : rdCh l = if s8 = ([], false) ∧ rightCh ⟨ps, (ti : Int), (re : Int), os, tr, mg⟩ = true then some ⟨ps, (ti : Int), (re : Int), os, tr, mg⟩ else none := by
    unfold rdCh
    rw [e0]
    dsimp only
    rw [e1]
    dsimp only
    rw [e2]
    dsimp only
    rw [e3]
    dsimp only
    rw [e4]
    dsimp only
    rw [e5]
    dsimp only
    rw [e6]
    dsimp only
    rw [e7]
    dsimp only
    rw [e8]
  have HR := Lib.hid hR
  have E0 := Lib.hid e0
  have E1 := Lib.hid e1
  have E2 := Lib.hid e2
  have E3 := Lib.hid e3
  have E4 := Lib.hid e4
  have E5 := Lib.hid e5
  have E6 := Lib.hid e6
  have E7 := Lib.hid e7
  have E8 := Lib.hid e8
  have C8 := Lib.hid c8
  have f0 : Fr noB w (w.alloc (codC.o zCgW)) := (Fr.refl noB w).alloc _
  have q0 : codC.bxd (w.alloc (codC.o zCgW)) w.heap.size = some zCgW := Cod.bxd_new _ _
  have hz0 : (w.alloc (codC.o zCgW)).heap.size = w.heap.size + 1 := by simp
  have Z0 := Lib.hid hz0
  replace hs := hs.fr0 f0
  clear hR e0 e1 e2 e3 e4 e5 e6 e7 e8 b0 b1 b2 b3 b4 b5 b6 b7 c8 hz0
  go_enter Tryz.func25, Tryz.ntmps25
  go_upto_region 1 with fail
  generalize w.alloc (codC.o zCgW) = w0 at f0 q0 hs Z0 ⊢
  generalize hRe : w.heap.size = R at q0 Z0 ⊢
  have hRw : w.heap.size ≤ R := by omega
  go_upto_region 2 with (go_at_call 45; refine (open_z w0 A c n l hn hs hcap hlb 3 3 rfl s E0.out).mono ?_; rintro e w1 ⟨p, Q, rfl, hr1, hQp, hQw, hwp, hwQ, hf1⟩)
  have q1 := Cod.bxd_fr0 q0 hf1
  have nRp : p ≠ R := by have := Z0.out; omega
  have nQR : ∀ b, Q b → b ≠ R := fun b hb => by have := Z0.out; have := hwQ b hb; omega
  have hf01 := f0.step0 hf1
  have fn : Fr noB w1 (w1.alloc (codC.o zCgW)) := (Fr.refl noB w1).alloc _
  have hb : RB codC noB w (w1.alloc (codC.o zCgW)) p R w1.heap.size s Q zCgW zCgW :=
    ⟨hr1.fr fn (by simp [noB]) (by simp [noB]), Cod.bxd_fr0 q1 fn, Cod.bxd_new _ _, hf01.step0 fn, fun h => by have := Z0.out; omega, hRw, hf01.size,
      by have := Cod.bxd_lt q1; omega, nRp, by have := hr1.lt; omega, fun b hb => ⟨nQR b hb, by have := hQw b hb; omega⟩, hQp⟩
  have hw1 : w.heap.size ≤ w1.heap.size := hf01.size
  have hWW : w1.heap.size ≤ (w1.alloc (codC.o zCgW)).heap.size := fn.size
  clear hr1 hf1 hf01 q0 q1 f0 nRp nQR hRw hwp hwQ Z0
  go_upto_region 3 with fail
  generalize w1.alloc (codC.o zCgW) = W at hb fn hWW ⊢
  generalize w1.heap.size = P at hb ⊢
  clear fn
  have nQ : ∀ {wz : World}, w1.heap.size ≤ wz.heap.size → ∀ b, Q b → b < wz.heap.size := fun h b hb => Nat.lt_of_lt_of_le (hQw b hb) h
  go_wp2_with (go_at_call 46; refine (num_z _ p s Q 2 2 rfl (by decide) hb.rd m0 pn s1 E1.out).mono ?_; rintro e w2 ⟨rfl, hr2, hf2⟩; replace hb := hb.call hr2 hf2; replace hWW := Nat.le_trans hWW hf2.size; clear hr2 hf2)
  go_loopg [10] pn (fun gk iv wr => PaR w w1 p R P pn 140737488355328 Q (ps, s2) gk iv wr)
  case atStart => exact ⟨0, [], s1, none, 0, rfl, by omega, by omega, rfl, m1, hWW, hb, ⟨World.ownsRow_nil _ _ _ _, World.ownsRow_nil _ _ _ _, ⟨rfl, fun i h => absurd h (by simp)⟩⟩, by rw [Nat.sub_zero, E2.out]; simp⟩
  case round =>
    obtain ⟨k, qs, sk, A1, c1, rfl, rfl, hk, hl, hmx, hWW, hb, hw, htot⟩ := hrel
    by_cases hlt : k < pn
    · have i1 : (k : Int) < (pn : Int) := by omega
      obtain ⟨x, sn, ex⟩ := rd_eq rdId sk
      have hmn : sn.1.length ≤ 140737488355328 := by
        have := rdId_len sk
        rw [ex] at this
        exact Nat.le_trans this hmx
      have EX := Lib.hid ex
      have HT2 := Lib.hid (show (ps, s2) = ((qs ++ [x]) ++ (rdAll rdId (pn - (k + 1)) sn).1, (rdAll rdId (pn - (k + 1)) sn).2) by
        rw [htot, show pn - k = pn - (k + 1) + 1 by omega]; exact rdAll_step _ _ _ _ _ _ ex)
      have HL := Lib.hid hl
      clear ex htot hl
      go_wp2_with fail
      have hbs0 : Fr noB wr wr.drew := (Fr.refl noB wr).drew
      replace hb := hb.new hbs0
      replace hw := hw.new hbs0
      replace hWW := Nat.le_trans hWW hbs0.size
      have hF0 := (cgAt (Cod.bxd_rd hb.bx)).parents
      refine wp_region_M 7 8 [⟨4096, 32, 0⟩, ⟨8192, 4096, 1⟩, ⟨16384, 16, 0⟩, ⟨32768, 16384, 4⟩, ⟨65536, 32768, 8⟩, ⟨131072, 73728, 26⟩, ⟨262144, 32, 63⟩, ⟨0, 393216, 127⟩] [(true, 0), (true, 1), (true, 2), (false, 3), (false, 4), (false, 5), (true, 6)] (fun w' => w'.cell? ⟨P, 0, none⟩ = some (.slice A1 qs.length c1)) (by kernel_rfl) rfl (by kernel_rfl) (by kernel_rfl) (by kernel_rfl) hF0 (fun hA hF => ?_)
      clear hF0
      iterate 3
        refine wpAnyS_take (v := ?_) hA rfl (fun _ _ _ h => h) (Or.inl ⟨by rfl, ?_⟩) hF (fun hA => ?_)
        rotate_left
        · intro wS hSw; (try dsimp only at hSw); obtain s1 := hSw; first | (apply Eq.trans; apply ex_ld_id; exact rfl; exact rfl; assumption; with_reducible rfl) | (go_simp; try with_reducible rfl)
        try simp only [List.getElem_toArray, List.getElem_cons_zero, List.getElem_cons_succ, Act.put, List.setIfInBounds_toArray, List.set_cons_zero, List.set_cons_succ]
      refine wpAnyS_one hA rfl (fun K' hK => ?_)
      go_simp
      go_at_call 63
      refine (rid_z _ p _ Q hb.rd hQp (nQ hWW) hmx _ _ EX.out).mono ?_
      rintro e wz ⟨rfl, hr, hf⟩
      replace hw := hw.rdr hb.rd hf
      replace hb := hb.call hr hf
      replace hWW := Nat.le_trans hWW hf.size
      replace hF := (cgAt (Cod.bxd_rd hb.bx)).parents
      refine hK.out _ _ hF (fun hA => ?_)
      clear hK K'
      as_aux_lemma =>
      refine wpAnyS_one hA rfl (fun K' hK => ?_)
      refine step_runI rfl _ _ (ex_bsI_at (x := x) rfl rfl) ?_
      have fn : Fr noB wz (wz.alloc (rowo [x])) := (Fr.refl noB wz).alloc _
      have sl : Sl (wz.alloc (rowo [x])) (some ⟨wz.heap.size, 0, none⟩) (codI.row [x]) := sl_new wz [x]
      replace hb := hb.new fn
      replace hw := hw.new fn
      replace hWW := Nat.le_trans hWW fn.size
      replace hF := (cgAt (Cod.bxd_rd hb.bx)).parents
      refine hK.out _ _ hF (fun hA => ?_)
      clear hK K'
      as_aux_lemma =>
      refine wpAnyS_one hA rfl (fun K' hK => ?_)
      refine step_appC' etI w1 _ rfl _ _ rfl A1 qs.length c1 qs rfl rfl hw.hps (some ⟨wz.heap.size, 0, none⟩) 1 1 [x] rfl sl rfl (by have := HL.out; simp; omega) hWW ?_
      intro A5 c5 w5 hc5 hm5 ho5 hg5 hA5
      replace hb := hb.grow (own_base hw.hps hw1) (by decide) (by decide) (fun b hb' e => by
        have h1 := (own_lt hw.hps b e).1
        have h2 := hQw b hb'
        omega) hg5
      replace hw := hw.growP hg5 ho5
      replace hWW := Nat.le_trans hWW hg5.size
      obtain ⟨l', hl'⟩ : ∃ l', l' = qs ++ [x] := ⟨_, rfl⟩
      rw [← hl'] at hw ⊢
      have HL' := Lib.hid hl'
      clear hl' ho5
      replace hF := (cgAt (Cod.bxd_rd hb.bx)).parents
      refine hK.out _ _ hF (fun hA => ?_)
      clear hK K'
      as_aux_lemma =>
      refine wpAnyS_take (v := ?_) hA rfl (fun _ _ _ h => h) (Or.inl ⟨by rfl, ?_⟩) hF (fun hA => ?_)
      rotate_left
      · intro wS hSw; (try dsimp only at hSw); obtain s1 := hSw; first | (apply Eq.trans; apply ex_ld_id; exact rfl; exact rfl; assumption; with_reducible rfl) | (go_simp; try with_reducible rfl)
      try simp only [List.getElem_toArray, List.getElem_cons_zero, List.getElem_cons_succ, Act.put, List.setIfInBounds_toArray, List.set_cons_zero, List.set_cons_succ]
      refine wpAnyS_end hA rfl ?_
      simp only [List.drop_succ_cons, List.drop_zero]
      have k4 := (Cod.bxd_blk hb.bx).frozen 0
      go_wp2_with fail
      go_roundg (pn - (k + 1))
      case measure => omega
      case rel =>
        have hb' := hb.set 0 (.slice A5 l'.length c5) _ (seC_Parents _ A5 _ c5)
        have hw' := hw.var hb.bx (Cod.set_fr w5 P 0 (.slice A5 l'.length c5))
        exact ⟨k + 1, l', sn, A5, c5, by simp, rfl, by omega, by rw [HL'.out]; simp [HL.out], hmn, Nat.le_trans hWW (Cod.set_fr w5 P 0 (.slice A5 l'.length c5)).size, hb', hw', by rw [HL'.out]; exact HT2.out⟩
    · have hkn : k = pn := by omega
      subst hkn
      have i1 : ¬ (k : Int) < (k : Int) := by omega
      rw [Nat.sub_self] at htot
      simp only [rdAll, List.append_nil] at htot
      injection htot with ht1 ht2
      obtain rfl : qs = ps := ht1.symm
      obtain rfl : sk = s2 := ht2.symm
      have HPL := Lib.hid (show qs.length ≤ 2 by omega)
      clear hl ht1 ht2 hlt
      have k3 := (cgAt (Cod.bxd_rd hb.bx)).time
      have k4 := (Cod.bxd_blk hb.bx).frozen 1
      go_upto_region 8 with (go_at_call 46; refine (num_z _ p _ Q 1099511627776 1099511627776 rfl (by decide) hb.rd m2 ti s3 E3.out).mono ?_; rintro e wz ⟨rfl, hr, hf⟩; replace hw := hw.rdr hb.rd hf; replace hb := hb.call hr hf; replace hWW := Nat.le_trans hWW hf.size; have k3 := (cgAt (Cod.bxd_rd hb.bx)).time; have k4 := (Cod.bxd_blk hb.bx).frozen 1; clear hr hf)
      have gF := Cod.set_fr wz P 1 (.int .i64 (ti : Int))
      replace hw := hw.var hb.bx gF
      replace hWW := Nat.le_trans hWW gF.size
      replace hb := hb.set 1 (.int .i64 (ti : Int)) { zCgW with PA := A1, pn := qs.length, pc := c1, Time := (ti : Int) } (seC_Time _ _)
      clear k3 k4 gF
      generalize World.setCell _ _ _ = W at hb hw hWW ⊢
      have k3 := (cgAt (Cod.bxd_rd hb.bx)).R
      have k4 := (Cod.bxd_blk hb.bx).frozen 2
      go_upto_region 9 with (go_at_call 46; refine (num_z _ p _ Q 65536 65536 rfl (by decide) hb.rd m3 re s4 E4.out).mono ?_; rintro e wz ⟨rfl, hr, hf⟩; replace hw := hw.rdr hb.rd hf; replace hb := hb.call hr hf; replace hWW := Nat.le_trans hWW hf.size; have k3 := (cgAt (Cod.bxd_rd hb.bx)).R; have k4 := (Cod.bxd_blk hb.bx).frozen 2; clear hr hf)
      have gF := Cod.set_fr wz P 2 (.int .i64 (re : Int))
      replace hw := hw.var hb.bx gF
      replace hWW := Nat.le_trans hWW gF.size
      replace hb := hb.set 2 (.int .i64 (re : Int)) { zCgW with PA := A1, pn := qs.length, pc := c1, Time := (ti : Int), R := (re : Int) } (seC_R _ _)
      clear k3 k4 gF
      generalize World.setCell _ _ _ = W at hb hw hWW ⊢
      generalize hr0 : ({ zCgW with PA := A1, pn := qs.length, pc := c1, Time := (ti : Int), R := (re : Int) } : CgW) = r0 at hb ⊢
      have R0 := Lib.hid hr0.symm
      clear hr0
      go_wp2_with (go_at_call 46; refine (num_z _ p _ Q 64 64 rfl (by decide) hb.rd m4 on s5 E5.out).mono ?_; rintro e wz ⟨rfl, hr, hf⟩; replace hw := hw.rdr hb.rd hf; replace hb := hb.call hr hf; replace hWW := Nat.le_trans hWW hf.size; clear hr hf)
      go_loopg [28] on (fun gk iv wr => OpR w w1 p R P on 140737488355328 Q r0 A1 c1 qs (os, s6) gk iv wr)
      case atStart => exact ⟨0, [], [], s5, none, 0, rfl, by omega, by omega, rfl, m5, hWW, by
        have e : ({ r0 with OA := none, on := ([] : List OpW).length, oc := 0 } : CgW) = r0 := by rw [R0.out]; rfl
        rw [e]; exact hb, hw, by rw [Nat.sub_zero, E6.out]; simp⟩
      case round =>
        obtain ⟨k, rs, oo, sk, B1, d1, rfl, rfl, hk, hl, hmx, hWW, hb, hw, htot⟩ := hrel
        by_cases hlt : k < on
        · have i1 : (k : Int) < (on : Int) := by omega
          obtain ⟨x, sn, ex⟩ := rd_eq rdOp sk
          have hmn : sn.1.length ≤ 140737488355328 := by
            have := rdOp_len sk
            rw [ex] at this
            exact Nat.le_trans this hmx
          have EX := Lib.hid ex
          have HT2 := Lib.hid (show (os, s6) = ((oo ++ [x]) ++ (rdAll rdOp (on - (k + 1)) sn).1, (rdAll rdOp (on - (k + 1)) sn).2) by
            rw [htot, show on - k = on - (k + 1) + 1 by omega]; exact rdAll_step _ _ _ _ _ _ ex)
          have HL := Lib.hid hl
          clear ex htot hl
          go_wp2_with fail
          have hbs0 : Fr noB wr wr.drew := (Fr.refl noB wr).drew
          replace hb := hb.new hbs0
          replace hw := hw.new hbs0
          replace hWW := Nat.le_trans hWW hbs0.size
          have hF0 := (cgAt (Cod.bxd_rd hb.bx)).ops
          refine wp_region_M 7 8 [⟨1073741824, 32, 0⟩, ⟨2147483648, 1073741824, 1⟩, ⟨4294967296, 16, 0⟩, ⟨8589934592, 4294967296, 4⟩, ⟨17179869184, 8589934592, 8⟩, ⟨34359738368, 19327352832, 26⟩, ⟨68719476736, 32, 63⟩, ⟨0, 103079215104, 127⟩] [(true, 0), (true, 1), (true, 2), (false, 3), (false, 4), (false, 5), (true, 6)] (fun w' => w'.cell? ⟨P, 3, none⟩ = some (.slice B1 rs.length d1)) (by kernel_rfl) rfl (by kernel_rfl) (by kernel_rfl) (by kernel_rfl) hF0 (fun hA hF => ?_)
          clear hF0
          iterate 3
            refine wpAnyS_take (v := ?_) hA rfl (fun _ _ _ h => h) (Or.inl ⟨by rfl, ?_⟩) hF (fun hA => ?_)
            rotate_left
            · intro wS hSw; (try dsimp only at hSw); obtain s1 := hSw; first | (apply Eq.trans; apply ex_ld_id; exact rfl; exact rfl; assumption; with_reducible rfl) | (go_simp; try with_reducible rfl)
            try simp only [List.getElem_toArray, List.getElem_cons_zero, List.getElem_cons_succ, Act.put, List.setIfInBounds_toArray, List.set_cons_zero, List.set_cons_succ]
          refine wpAnyS_one hA rfl (fun K' hK => ?_)
          go_simp
          go_at_call 64
          refine (getO_z _ p _ Q hb.rd (nQ hWW) hQp hmx _ _ EX.out).mono ?_
          rintro e wz ⟨r, rfl, hin, hro, hr, hf⟩
          replace hro := own_base hro hWW
          replace hw := hw.rdr hb.rd hf
          replace hb := hb.call hr hf
          replace hWW := Nat.le_trans hWW hf.size
          replace hF := (cgAt (Cod.bxd_rd hb.bx)).ops
          refine hK.out _ _ hF (fun hA => ?_)
          clear hK K'
          as_aux_lemma =>
          refine wpAnyS_one hA rfl (fun K' hK => ?_)
          refine step_runI rfl _ _ (ex_bsO_at (x := r) rfl rfl) ?_
          have fn : Fr noB wz (wz.alloc (codO.ro [r])) := (Fr.refl noB wz).alloc _
          have sl := Cod.sl_new (C := codO) wz [r]
          replace hb := hb.new fn
          replace hw := hw.new fn
          replace hin := hin.fr fn
          replace hro := own_new0 hro fn
          replace hWW := Nat.le_trans hWW fn.size
          replace hF := (cgAt (Cod.bxd_rd hb.bx)).ops
          refine hK.out _ _ hF (fun hA => ?_)
          clear hK K'
          as_aux_lemma =>
          refine wpAnyS_one hA rfl (fun K' hK => ?_)
          refine step_appC' etO w1 _ rfl _ _ rfl B1 rs.length d1 rs rfl rfl hw.hrs (some ⟨wz.heap.size, 0, none⟩) 1 1 [r] rfl sl rfl (by have := HL.out; simp; omega) hWW ?_
          intro A5 c5 w5 hc5 hm5 ho5 hg5 hA5
          replace hb := hb.grow (own_base hw.hrs hw1) (by decide) (by decide) (fun b hb' e => by
            have h1 := (own_lt hw.hrs b e).1
            have h2 := hQw b hb'
            omega) hg5
          replace hw := hw.growO hg5 ho5 hin hro
          replace hWW := Nat.le_trans hWW hg5.size
          obtain ⟨l', hl'⟩ : ∃ l', l' = rs ++ [r] := ⟨_, rfl⟩
          rw [← hl'] at hw ⊢
          have HL' := Lib.hid hl'
          clear hl' ho5
          replace hF := (cgAt (Cod.bxd_rd hb.bx)).ops
          refine hK.out _ _ hF (fun hA => ?_)
          clear hK K'
          as_aux_lemma =>
          refine wpAnyS_take (v := ?_) hA rfl (fun _ _ _ h => h) (Or.inl ⟨by rfl, ?_⟩) hF (fun hA => ?_)
          rotate_left
          · intro wS hSw; (try dsimp only at hSw); obtain s1 := hSw; first | (apply Eq.trans; apply ex_ld_id; exact rfl; exact rfl; assumption; with_reducible rfl) | (go_simp; try with_reducible rfl)
          try simp only [List.getElem_toArray, List.getElem_cons_zero, List.getElem_cons_succ, Act.put, List.setIfInBounds_toArray, List.set_cons_zero, List.set_cons_succ]
          refine wpAnyS_end hA rfl ?_
          simp only [List.drop_succ_cons, List.drop_zero]
          have k4 := (Cod.bxd_blk hb.bx).frozen 3
          go_wp2_with fail
          go_roundg (on - (k + 1))
          case measure => omega
          case rel =>
            have hb' := hb.set 3 (.slice A5 l'.length c5) _ (seC_Ops _ A5 _ c5)
            have hw' := hw.var hb.bx (Cod.set_fr w5 P 3 (.slice A5 l'.length c5))
            exact ⟨k + 1, l', oo ++ [x], sn, A5, c5, by simp, rfl, by omega, by rw [HL'.out]; simp [HL.out], hmn, Nat.le_trans hWW (Cod.set_fr w5 P 3 (.slice A5 l'.length c5)).size, hb', hw', HT2.out⟩
        · have hkn : k = on := by omega
          subst hkn
          have i1 : ¬ (k : Int) < (k : Int) := by omega
          rw [Nat.sub_self] at htot
          simp only [rdAll, List.append_nil] at htot
          injection htot with ht1 ht2
          obtain rfl : oo = os := ht1.symm
          obtain rfl : sk = s6 := ht2.symm
          have HOL := Lib.hid (show rs.length ≤ 64 by omega)
          clear hl ht1 ht2 hlt
          go_upto_region 14 with (go_at_call 63; refine (rid_z _ p _ Q hb.rd hQp (nQ hWW) m6 _ _ E7.out).mono ?_; rintro e wz ⟨rfl, hr, hf⟩; replace hw := hw.rdr hb.rd hf; replace hb := hb.call hr hf; replace hWW := Nat.le_trans hWW hf.size; have hst := stC_Tree hb.bx tr; clear hr hf)
          have gF := (Cod.put_fr hb.bx { r0 with OA := B1, on := rs.length, oc := d1, Tree := tr }).1
          replace hw := hw.var hb.bx gF
          replace hWW := Nat.le_trans hWW gF.size
          replace hb := hb.put { r0 with OA := B1, on := rs.length, oc := d1, Tree := tr }
          clear hst gF
          generalize codC.put _ P _ = W at hb hw hWW ⊢
          have k3 := (cgAt (Cod.bxd_rd hb.bx)).msg
          have k4 := (Cod.bxd_blk hb.bx).frozen 36
          go_upto_region 15 with (go_at_call 65; refine (rtext_z _ p _ Q hb.rd hQp m7 200 200 rfl (by decide) _ _ E8.out).mono ?_; rintro e wz ⟨rfl, hr, hf⟩; replace hw := hw.rdr hb.rd hf; replace hb := hb.call hr hf; replace hWW := Nat.le_trans hWW hf.size; have k3 := (cgAt (Cod.bxd_rd hb.bx)).msg; have k4 := (Cod.bxd_blk hb.bx).frozen 36; clear hr hf)
          have gF := Cod.set_fr wz P 36 (.string (str mg))
          replace hw := hw.var hb.bx gF
          replace hWW := Nat.le_trans hWW gF.size
          replace hb := hb.set 36 (.string (str mg)) { r0 with OA := B1, on := rs.length, oc := d1, Tree := tr, Msg := mg } (seC_Msg _ _)
          clear k3 k4 gF
          generalize World.setCell _ _ _ = W at hb hw hWW ⊢
          obtain ⟨cF, hcF⟩ : ∃ cF : Chg, cF = ⟨qs, (ti : Int), (re : Int), oo, tr, mg⟩ := ⟨_, rfl⟩
          generalize hrF : ({ r0 with OA := B1, on := rs.length, oc := d1, Tree := tr, Msg := mg } : CgW) = rF at hb ⊢
          have hpa : rF.PA = A1 ∧ rF.pn = qs.length ∧ rF.pc = c1 := by rw [← hrF, R0.out]; exact ⟨rfl, rfl, rfl⟩
          have hoa : rF.OA = B1 ∧ rF.on = rs.length ∧ rF.oc = d1 := by rw [← hrF]; exact ⟨rfl, rfl, rfl⟩
          have hin : ∀ w'', Rws w1 w'' A1 c1 qs B1 d1 rs oo → CgIn w'' rF rs cF := fun w'' hw => by
            rw [← hrF, R0.out, hcF]
            have h1 := HPL.out
            have h2 := HOL.out
            have h3 := C8.out
            exact ⟨rfl, rfl, rfl, rfl, rfl, Sl.own hw.hps, rfl, Sl.own hw.hrs, hw.hos.ops, by simp only; omega, by omega, by simp only; omega⟩
          have HIN := Lib.hid hin
          have HPA := Lib.hid hpa
          have HOA := Lib.hid hoa
          have HCF := Lib.hid hcF
          rw [← hcF] at HR
          clear hcF hrF hpa hoa hin
          have k5 := Cod.bxd_rd hb.bx
          have hrs := okC.stR_box hb.rs zCgW
          have hrs2 := okC.stR_box hb.rs rF
          simp only [Cod.v] at hrs hrs2
          have hbad : rdCh l = none → ∀ w'' (r2 : CgW), RB codC noB w w'' p R P s8 Q zCgW r2 → ChTo w l (.returned (.tuple #[.agg (codC.A zCgW), .int .i64 20])) w'' := fun h w'' r2 hb => by
            unfold ChTo
            rw [h]
            exact ⟨zCgW, [], rfl, hb.fr, fun _ => rfl, fun c hc => by cases hc⟩
          have HBAD := Lib.hid hbad
          clear hbad
          by_cases hdn : s8 = ([], false)
          · have D := Lib.hid (show decide (s8 = ([], false)) = true by simp [hdn])
            have D' := Lib.hid hdn
            clear hdn
            by_cases hrt : rightCh cF = true
            · have HL := Lib.hid (show rdCh l = some cF by rw [HR.out]; exact if_pos ⟨D'.out, hrt⟩)
              go_wp2_with (first
                | (go_at_call 49; refine (done_any _ p _ Q hb.rd).mono ?_; rintro e wz ⟨rfl, rfl⟩; rw [D.out])
                | (go_at_call 58; refine (rightChange_any _ rF rs cF (HIN.out _ hw)).mono ?_; rintro e wz ⟨rfl, hf⟩; rw [hrt]; replace hb := hb.new hf; replace hw := hw.new hf; have k5 := Cod.bxd_rd hb.bx; have hrs2 := okC.stR_box hb.rs rF; simp only [Cod.v] at hrs2))
              have hbz := hb.res rF
              have hwz := hw.var hb.rs (Cod.put_fr hb.rs rF).1
              refine bodyPost_ret (ret_row_tmp okC rfl _ _ R rF (by rfl) hbz.rs) rfl ?_
              have hpa := HPA.out
              have hoa := HOA.out
              unfold ChTo
              rw [HL.out]
              refine ⟨rF, rs, rfl, hbz.fr, (fun h => by cases h), fun c hc => ?_⟩
              injection hc with hc
              subst hc
              refine ⟨HIN.out _ hwz, ?_, hoa.2.1, ?_⟩
              · rw [hpa.2.1, HCF.out]
              · rw [hpa.1, hpa.2.2, hoa.1, hoa.2.2, HCF.out]
                exact hwz.base hw1
            · have hrt' : rightCh cF = false := by simpa using hrt
              have HL := Lib.hid (show rdCh l = none by rw [HR.out]; exact if_neg (fun h => hrt h.2))
              clear hrt
              go_wp2_with (first
                | (go_at_call 49; refine (done_any _ p _ Q hb.rd).mono ?_; rintro e wz ⟨rfl, rfl⟩; rw [D.out])
                | (go_at_call 58; refine (rightChange_any _ rF rs cF (HIN.out _ hw)).mono ?_; rintro e wz ⟨rfl, hf⟩; rw [hrt']; replace hb := hb.new hf; have hrs := okC.stR_box hb.rs zCgW; simp only [Cod.v] at hrs))
              have hbz := hb.res zCgW
              refine bodyPost_ret (ret_row_tmp okC rfl _ _ R zCgW (by rfl) hbz.rs) rfl ?_
              exact HBAD.out HL.out _ _ hbz
          · have D := Lib.hid (show decide (s8 = ([], false)) = false by simp [hdn])
            have HL := Lib.hid (show rdCh l = none by rw [HR.out]; exact if_neg (fun h => hdn h.1))
            clear hdn
            go_wp2_with (go_at_call 49; refine (done_any _ p _ Q hb.rd).mono ?_; rintro e wz ⟨rfl, rfl⟩; rw [D.out])
            have hbz := hb.res zCgW
            refine bodyPost_ret (ret_row_tmp okC rfl _ _ R zCgW (by rfl) hbz.rs) rfl ?_
            exact HBAD.out HL.out _ _ hbz
end Go.Proofs.YtejkfekpgbmdiaaGreat
