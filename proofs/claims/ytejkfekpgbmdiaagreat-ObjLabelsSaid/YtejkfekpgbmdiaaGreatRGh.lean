/- Contracts: the reference's Label. Contracts: the reference's Dir. Contracts: the reference's Change. -/
import Derived.Test.YtejkfekpgbmdiaaGreatRGe
import Derived.Test.YtejkfekpgbmdiaaGreatRdC
namespace Go.Proofs.YtejkfekpgbmdiaaGreat
open Go.RowKit
set_option linter.unusedVariables false
set_option linter.unusedSimpArgs false

theorem Sl.blkLt {w : World} {A : Option Addr} {l : List UInt8} (h : Sl w A (bv l)) (hl : l ≠ []) : ∀ b, A.map (·.block) = some b → b < w.heap.size := by
  obtain ⟨g, off, rfl, hg, _⟩ := h (bv_ne hl)
  intro b hb
  injection hb with hb
  rw [← hb]; exact hg
/-! as RN, without the reader's result -/
structure RM {α : Type} (C : Cod α) (B : Nat) (W w : World) (R E P : Nat) (v : InV) (s : RS) (z r : α) : Prop where
  rs : C.bxd w R = some z
  es : codN.bxd w E = some v
  inn : InAt B w v s
  bx : C.bxd w P = some r
  fr : Fr noB W w
  hB : B ≤ W.heap.size
  o1 : W.heap.size ≤ R
  o2 : R < E
  o3 : R < P
  o4 : E ≠ P
section
variable {α : Type} {C : Cod α} {B : Nat} {W w : World} {R E P : Nat} {v : InV} {s : RS} {z r : α}
theorem RM.size (h : RM C B W w R E P v s z r) : B ≤ w.heap.size := Nat.le_trans h.hB h.fr.size
theorem RM.BP (h : RM C B W w R E P v s z r) : B ≤ P := by
  have h1 := h.o1; have h2 := h.o2; have h3 := h.o3; have h4 := h.o4; have h5 := h.hB
  omega
theorem RM.new {w' : World} (h : RM C B W w R E P v s z r) (f : Fr noB w w') : RM C B W w' R E P v s z r :=
  ⟨Cod.bxd_fr0 h.rs f, Cod.bxd_fr0 h.es f, h.inn.fr f, Cod.bxd_fr0 h.bx f, h.fr.step0 f, h.hB, h.o1, h.o2, h.o3, h.o4⟩
theorem RM.turn {w' : World} {r' : α} (h : RM C B W w R E P v s z r) (f : Fr (oneB P) w w') (hb : C.bxd w' P = some r') : RM C B W w' R E P v s z r' := by
  have h1 := h.o1; have h2 := h.o2; have h3 := h.o3; have h4 := h.o4; have h5 := h.hB
  exact ⟨Cod.bxd_fr h.rs f (fun e => by simp only [oneB] at e; omega), Cod.bxd_fr h.es f (fun e => by simp only [oneB] at e; omega), h.inn.box (by omega) f, hb,
    h.fr.step f (fun b hb => .inl (by simp only [oneB] at hb; omega)), h.hB, h.o1, h.o2, h.o3, h.o4⟩
theorem RM.put (h : RM C B W w R E P v s z r) (r' : α) : RM C B W (C.put w P r') R E P v s z r' := h.turn (Cod.put_fr h.bx r').1 (Cod.put_fr h.bx r').2.2
theorem RM.set (h : RM C B W w R E P v s z r) (o : Nat) (x : Value) (r' : α) (hs : (C.cs r).set o x = C.cs r') : RM C B W (w.setCell ⟨P, o, none⟩ x) R E P v s z r' := h.turn (Cod.set_fr w P o x) (Cod.bxd_set h.bx o x r' hs)
/-- the reader's variable is turned -/
theorem RM.rdr (h : RM C B W w R E P v s z r) {v' : InV} {s' : RS} (hi : InAt B w v' s') : RM C B W (codN.put w E v') R E P v' s' z r := by
  have h1 := h.o1; have h2 := h.o2; have h3 := h.o3; have h4 := h.o4; have h5 := h.hB
  obtain ⟨f, _, hb⟩ := Cod.put_fr h.es v'
  exact ⟨Cod.bxd_fr h.rs f (fun e => by simp only [oneB] at e; omega), hb, hi.box (by omega) f, Cod.bxd_fr h.bx f (fun e => by simp only [oneB] at e; omega),
    h.fr.step f (fun b hb => .inl (by simp only [oneB] at hb; omega)), h.hB, h.o1, h.o2, h.o3, h.o4⟩
theorem RM.rfr (h : RM C B W w R E P v s z r) (v' : InV) : Fr (oneB E) w (codN.put w E v') := (Cod.put_fr h.es v').1
/-- a row of the call's own was grown -/
theorem RM.grow {e : TypeId} {size n c : Nat} {A : Option Addr} {xs : List Value} {w' : World} (h : RM C B W w R E P v s z r) (ho : w.ownsRow W.heap.size e size (.slice A n c) n xs) (h1 : e ≠ 110) (h2 : e ≠ C.t) (hg : w.grownBy w' (A.map (·.block))) : RM C B W w' R E P v s z r := by
  have f : Fr (fun b => A.map (·.block) = some b) w w' := Fr.ofGrown hg (fun g hg => hg)
  have hob : (Value.slice A n c).ownBlock = A.map (·.block) := ownBlock_sl' A n c
  have nP : A.map (·.block) ≠ some P := fun e => Blk.ne_own (Cod.bxd_blk h.bx) ho h2 P (by rw [hob]; exact e) rfl
  have nR : A.map (·.block) ≠ some R := fun e => Blk.ne_own (Cod.bxd_blk h.rs) ho h2 R (by rw [hob]; exact e) rfl
  have nE : A.map (·.block) ≠ some E := fun e => Blk.ne_own (Cod.bxd_blk h.es) ho h1 E (by rw [hob]; exact e) rfl
  have hi : InAt B w' v s := ⟨h.inn.n, h.inn.c, h.inn.sl.fr f (fun a ha e => by
    have q1 := h.inn.lt a.block (by rw [ha]; rfl)
    have q2 := (ho.lt a.block (by rw [hob]; exact e)).1
    have q3 := h.hB
    omega), h.inn.bad, h.inn.lt⟩
  exact ⟨Cod.bxd_fr h.rs f nR, Cod.bxd_fr h.es f nE, hi, Cod.bxd_fr h.bx f nP, h.fr.step f (fun b hb => .inl (ho.lt b (by rw [hob]; exact hb)).1), h.hB, h.o1, h.o2, h.o3, h.o4⟩
theorem RM.inG {e : TypeId} {size n c : Nat} {A : Option Addr} {xs : List Value} {w' : World} {v' : InV} {s' : RS} (h : RM C B W w R E P v s z r) (ho : w.ownsRow W.heap.size e size (.slice A n c) n xs) (hg : w.grownBy w' (A.map (·.block))) (hi : InAt B w v' s') : InAt B w' v' s' := by
  have f : Fr (fun b => A.map (·.block) = some b) w w' := Fr.ofGrown hg (fun g hg => hg)
  have hob : (Value.slice A n c).ownBlock = A.map (·.block) := ownBlock_sl' A n c
  exact ⟨hi.n, hi.c, hi.sl.fr f (fun a ha e => by
    have q1 := hi.lt a.block (by rw [ha]; rfl)
    have q2 := (ho.lt a.block (by rw [hob]; exact e)).1
    have q3 := h.hB
    omega), hi.bad, hi.lt⟩
theorem RM.own_turn {base : Nat} {e : TypeId} {size n : Nat} {x : Value} {xs : List Value} {w' : World} (h : RM C B W w R E P v s z r) (ho : w.ownsRow base e size x n xs) (hne : e ≠ C.t) (f : Fr (oneB P) w w') : w'.ownsRow base e size x n xs := own_box (Cod.bxd_blk h.bx) ho hne f
theorem RM.own_rdr {base : Nat} {e : TypeId} {size n : Nat} {x : Value} {xs : List Value} {w' : World} (h : RM C B W w R E P v s z r) (ho : w.ownsRow base e size x n xs) (hne : e ≠ 110) (f : Fr (oneB E) w w') : w'.ownsRow base e size x n xs := own_box (Cod.bxd_blk h.es) ho hne f
end
/-- a tag: is there one? -/
def RLbTo (w : World) (l : List UInt8) (e : Ending) (w' : World) : Prop :=
  e = .returned (.tuple #[.agg (codL.A ((rdLb l).getD zLbl)), .bool (rdLb l).isSome]) ∧ Fr noB w w'
set_option maxRecDepth 100000 in
set_option maxHeartbeats 4000000 in
theorem r4lb_any (w : World) (A : Option Addr) (c n : Nat) (l : List UInt8) (hn : l.length = n) (hs : Sl w A (bv l)) (hcap : l.length ≤ c) (hlb : l.length ≤ 140737488355328) : Calls Tryz.prog 34 #[.slice A n c] w (RLbTo w l) := by
  obtain ⟨s, e0⟩ : ∃ s, openR l 4 = s := ⟨_, rfl⟩
  have b0 := openR_len l 4
  rw [e0] at b0
  obtain ⟨tg, s1, e1⟩ := rd_eq rdId s
  have b1 := rdId_len s
  rw [e1] at b1
  obtain ⟨nm, s2, e2⟩ := rd_eq (rdText 60) s1
  have b2 := rdText_len 60 s1
  have c2 := rdText_le 60 s1
  rw [e2] at b2 c2
  obtain ⟨mg, s3, e3⟩ := rd_eq (rdText 200) s2
  have c3 := rdText_le 200 s2
  rw [e3] at c3
  simp only at b0 b1 b2 c2 c3
  have m0 : s.1.length ≤ 140737488355328 := by omega
  have m1 : s1.1.length ≤ 140737488355328 := by omega
  have m2 : s2.1.length ≤ 140737488355328 := by omega
  have hR : rdLb l = if s3 = ([], false) ∧ rightLb ⟨tg, nm, mg⟩ = true then some ⟨tg, nm, mg⟩ else none := by
    unfold rdLb
    rw [e0]
    dsimp only
    rw [e1]
    dsimp only
    rw [e2]
    dsimp only
    rw [e3]
  have HR := Lib.hid hR
  have E0 := Lib.hid e0
  have E1 := Lib.hid e1
  have E2 := Lib.hid e2
  have E3 := Lib.hid e3
  have C2 := Lib.hid c2
  have C3 := Lib.hid c3
  have f2 : Fr noB w (w.alloc (codL.o zLbl)) := (Fr.refl noB w).alloc _
  have r2 : codL.bxd (w.alloc (codL.o zLbl)) w.heap.size = some zLbl := Cod.bxd_new _ _
  have hlt := Lib.hid (fun h => hs.blkLt h)
  replace hs := hs.fr0 f2
  clear hR e0 e1 e2 e3 b0 b1 b2 c2 c3
  have hRw : w.heap.size ≤ w.heap.size := Nat.le_refl _
  obtain ⟨B, hBe⟩ : ∃ B, B = w.heap.size := ⟨_, rfl⟩
  rw [← hBe] at hlt
  have hB : B ≤ w.heap.size := by omega
  clear hBe
  go_enter Tryz.func34, Tryz.ntmps34
  go_upto_region 1 with fail
  generalize w.alloc (codL.o zLbl) = w0 at f2 r2 hs ⊢
  generalize hRe : w.heap.size = R at r2 ⊢
  have hRw : w.heap.size ≤ R := by omega
  clear hRe
  go_upto_region 2 with (first
    | (go_at_call 73; refine (r4open_z B w0 A c n l hn hs hcap hlb hlt.out 4 4 rfl s E0.out).mono ?_; rintro e wo ⟨v0, rfl, h0, fo⟩)
    | (go_at_call 76; refine (r2getid_z B _ (Nat.le_trans hB (f2.step0 fo).size) _ _ h0 m0 tg _ E1.out).mono ?_; rintro e w1 ⟨v1, rfl, hz, f1⟩; obtain ⟨W2, st1, st2, fa, ta, tb⟩ := two_newA okN w1 tg zInV v1))
  have fr := (fo.step0 f1).step0 fa
  replace r2 := Cod.bxd_fr0 r2 fr
  have h1 := hz.fr fa
  have a1 := bxA_rd ta
  have b1 := Cod.bxd_rd tb
  replace f2 := f2.step0 fr
  clear st1 st2 hz f1 fa ta tb fo h0 fr hs
  generalize w1.heap.size = N1 at a1 b1 ⊢
  go_upto_region 3 with (go_at_call 78; refine (r2gettext_z B _ (Nat.le_trans hB f2.size) _ _ h1 m1 60 60 rfl (by decide) nm _ E2.out).mono ?_; rintro e w1 ⟨v2, rfl, hz, f1⟩)
  have fa : Fr noB w1 (w1.alloc (codN.o v2)) := (Fr.refl noB w1).alloc _
  have b2 := Cod.rd_new' (C := codN) w1 v2
  have fr := f1.step0 fa
  replace r2 := Cod.bxd_fr0 r2 fr
  replace a1 := rdI_fr a1 (rdI_lt a1) fr (by simp [noB])
  have h2 := hz.fr fa
  replace f2 := f2.step0 fr
  clear hz f1 fa h1 fr
  generalize w1.alloc (codN.o v2) = W3 at b2 r2 a1 h2 f2 ⊢
  generalize w1.heap.size = N2 at b2 ⊢
  clear b1
  go_upto_region 4 with (go_at_call 78; refine (r2gettext_z B _ (Nat.le_trans hB f2.size) _ _ h2 m2 200 200 rfl (by decide) mg _ E3.out).mono ?_; rintro e w1 ⟨v3, rfl, hz, f1⟩)
  have fa : Fr noB w1 (w1.alloc (codN.o v3)) := (Fr.refl noB w1).alloc _
  have b3 := Cod.rd_new' (C := codN) w1 v3
  have fr := f1.step0 fa
  replace r2 := Cod.bxd_fr0 r2 fr
  replace a1 := rdI_fr a1 (rdI_lt a1) fr (by simp [noB])
  have h3 := hz.fr fa
  replace f2 := f2.step0 fr
  clear hz f1 fa h2 fr
  generalize w1.alloc (codN.o v3) = W4 at b3 r2 a1 h3 f2 ⊢
  generalize w1.heap.size = N3 at b3 ⊢
  clear b2
  have fa : Fr noB W4 (W4.alloc (codL.o ⟨tg, nm, mg⟩)) := (Fr.refl noB W4).alloc _
  have kP := Cod.rd_new' (C := codL) W4 ⟨tg, nm, mg⟩
  have kE := Cod.rd_fr0 b3 fa
  replace h3 := h3.fr fa
  replace r2 := Cod.bxd_fr0 r2 fa
  replace f2 := f2.step0 fa
  go_upto_region 5 with fail
  clear fa a1 b3
  generalize W4.alloc (codL.o ⟨tg, nm, mg⟩) = W5 at kP kE h3 r2 f2 ⊢
  generalize W4.heap.size = P at kP ⊢
  have hrl := Lib.hid (fun w => r4label_any w ⟨tg, nm, mg⟩ (by have := C2.out; simp only; omega) (by have := C3.out; simp only; omega))
  by_cases hdn : s3 = ([], false)
  · have D := Lib.hid (show decide (s3 = ([], false)) = true by simp [hdn])
    have D' := Lib.hid hdn
    clear hdn
    cases hrt : rightLb ⟨tg, nm, mg⟩ with
    | true =>
      have HL := Lib.hid (show rdLb l = some ⟨tg, nm, mg⟩ by rw [HR.out, if_pos ⟨D'.out, hrt⟩])
      have HG := Lib.hid hrt
      clear hrt
      go_upto_region 7 with (first
        | (go_at_call 75; refine (r2done_z _ _ _ h3).mono ?_; rintro e wz ⟨rfl, hf⟩; rw [D.out]; replace kP := Cod.rd_fr0 kP hf; replace r2 := Cod.bxd_fr0 r2 hf; replace f2 := f2.step0 hf; clear hf)
        | (go_at_call 29; refine (hrl.out _).mono ?_; rintro e wy ⟨rfl, hf⟩; rw [HG.out]; replace kP := Cod.rd_fr0 kP hf; replace r2 := Cod.bxd_fr0 r2 hf; replace f2 := f2.step0 hf; clear hf))
      have hrs := okL.stR_box r2 ⟨tg, nm, mg⟩
      simp only [Cod.v] at hrs
      obtain ⟨g1, g2, g3⟩ := Cod.put_fr r2 ⟨tg, nm, mg⟩
      have fo := f2.step g1 (fun b hb => .inl (by simp only [oneB] at hb; omega))
      go_wp2_with fail
      refine bodyPost_ret (ret_row_tmp okL rfl _ _ R ⟨tg, nm, mg⟩ (by rfl) g3) rfl ?_
      unfold RLbTo
      rw [HL.out]
      exact ⟨rfl, fo⟩
    | false =>
      have HL := Lib.hid (show rdLb l = none by rw [HR.out, if_neg (fun h => by rw [hrt] at h; cases h.2)])
      have HG := Lib.hid hrt
      clear hrt
      go_upto_region 6 with (first
        | (go_at_call 75; refine (r2done_z _ _ _ h3).mono ?_; rintro e wz ⟨rfl, hf⟩; rw [D.out]; replace kP := Cod.rd_fr0 kP hf; replace r2 := Cod.bxd_fr0 r2 hf; replace f2 := f2.step0 hf; clear hf)
        | (go_at_call 29; refine (hrl.out _).mono ?_; rintro e wy ⟨rfl, hf⟩; rw [HG.out]; replace kP := Cod.rd_fr0 kP hf; replace r2 := Cod.bxd_fr0 r2 hf; replace f2 := f2.step0 hf; clear hf))
      have hrs := okL.stR_box r2 zLbl
      simp only [Cod.v] at hrs
      obtain ⟨g1, g2, g3⟩ := Cod.put_fr r2 zLbl
      have fo := f2.step g1 (fun b hb => .inl (by simp only [oneB] at hb; omega))
      go_wp2_with fail
      refine bodyPost_ret (ret_row_tmp okL rfl _ _ R zLbl (by rfl) g3) rfl ?_
      unfold RLbTo
      rw [HL.out]
      exact ⟨rfl, fo⟩
  · have D := Lib.hid (show decide (s3 = ([], false)) = false by simp [hdn])
    have HL := Lib.hid (show rdLb l = none by rw [HR.out, if_neg (fun h => hdn h.1)])
    clear hdn
    go_upto_region 6 with (go_at_call 75; refine (r2done_z _ _ _ h3).mono ?_; rintro e wz ⟨rfl, hf⟩; rw [D.out]; replace r2 := Cod.bxd_fr0 r2 hf; replace f2 := f2.step0 hf; clear hf)
    have hrs := okL.stR_box r2 zLbl
    simp only [Cod.v] at hrs
    obtain ⟨g1, g2, g3⟩ := Cod.put_fr r2 zLbl
    have fo := f2.step g1 (fun b hb => .inl (by simp only [oneB] at hb; omega))
    go_wp2_with fail
    refine bodyPost_ret (ret_row_tmp okL rfl _ _ R zLbl (by rfl) g3) rfl ?_
    unfold RLbTo
    rw [HL.out]
    exact ⟨rfl, fo⟩
end Go.Proofs.YtejkfekpgbmdiaaGreat
namespace Go.Proofs.YtejkfekpgbmdiaaGreat
open Go.RowKit
set_option linter.unusedVariables false
set_option linter.unusedSimpArgs false

structure DN (B : Nat) (W w : World) (E : Nat) (v : InV) (s : RS) (A : Option Addr) (c : Nat) (rs : List ItW) (xs : List It) : Prop where
  es : codN.bxd w E = some v
  inn : InAt B w v s
  own : OwnC codT W w A c rs
  its : ItsOwn W w rs xs
  fr : Fr noB W w
  hB : B ≤ W.heap.size
  oE : W.heap.size ≤ E
section
variable {B : Nat} {W w w' : World} {E : Nat} {v v' : InV} {s s' : RS} {A : Option Addr} {c : Nat} {rs : List ItW} {xs : List It}
theorem DN.size (h : DN B W w E v s A c rs xs) : B ≤ w.heap.size := Nat.le_trans h.hB h.fr.size
theorem DN.new (h : DN B W w E v s A c rs xs) (f : Fr noB w w') : DN B W w' E v s A c rs xs :=
  ⟨Cod.bxd_fr0 h.es f, h.inn.fr f, own_new0 h.own f, h.its.map fun v n l ho => own_new0 ho f, h.fr.step0 f, h.hB, h.oE⟩
theorem DN.rdr (h : DN B W w E v s A c rs xs) (hi : InAt B w v' s') : DN B W (codN.put w E v') E v' s' A c rs xs := by
  have h1 := h.oE; have h5 := h.hB
  obtain ⟨f, _, hb⟩ := Cod.put_fr h.es v'
  exact ⟨hb, hi.box (by omega) f, own_box (Cod.bxd_blk h.es) h.own (by decide) f, h.its.map fun v n l ho => own_box (Cod.bxd_blk h.es) ho (by decide) f, h.fr.step f (fun b hb => .inl (by simp only [oneB] at hb; omega)), h.hB, h.oE⟩
theorem DN.inG (h : DN B W w E v s A c rs xs) (hg : w.grownBy w' (A.map (·.block))) (hi : InAt B w v' s') : InAt B w' v' s' := by
  have f : Fr (fun b => A.map (·.block) = some b) w w' := Fr.ofGrown hg (fun g hg => hg)
  exact ⟨hi.n, hi.c, hi.sl.fr f (fun a ha e => by
    have q1 := hi.lt a.block (by rw [ha]; rfl)
    have q2 := (own_lt h.own a.block e).1
    have q3 := h.hB
    omega), hi.bad, hi.lt⟩
theorem DN.grow (h : DN B W w E v s A c rs xs) (hg : w.grownBy w' (A.map (·.block))) {A5 : Option Addr} {c5 : Nat} {r : ItW} {x : It} (ho5 : OwnC codT W w' A5 c5 (rs ++ [r])) (hi : ItIn w r x) (hro : w.ownsRow W.heap.size 84 34 (.slice r.A r.n r.c) r.n (codH.row x.Heads)) :
    DN B W w' E v s A5 c5 (rs ++ [r]) (xs ++ [x]) := by
  have f : Fr (fun b => A.map (·.block) = some b) w w' := Fr.ofGrown hg (fun g hg => hg)
  have hro' := own_two h.own hro (by decide) f
  exact ⟨bxd_grow h.es h.own (by decide) hg, h.inG hg h.inn, ho5, (h.its.map fun v n l ho => own_two h.own ho (by decide) f).snoc (hi.of hro') hro', h.fr.step f (fun b hb => .inl (own_lt h.own b hb).1), h.hB, h.oE⟩
end
/-- items: are there any? -/
def RDrTo (w : World) (l : List UInt8) (e : Ending) (w' : World) : Prop :=
  ∃ A c rs, e = .returned (.tuple #[.slice A rs.length c, .bool (rdDr l).isSome]) ∧ Fr noB w w' ∧ OwnC codT w w' A c rs ∧ ItsOwn w w' rs ((rdDr l).getD [])
def DnR (B : Nat) (W : World) (E n mx : Nat) (tot : List It × RS) (gk : Nat) (u iv : Value) (wr : World) : Prop :=
  ∃ (k : Nat) (rs : List ItW) (xs : List It) (s : RS) (v : InV) (A : Option Addr) (c : Nat), u = .slice A rs.length c ∧ iv = .int .i64 (k : Int) ∧ gk = n - k ∧ k ≤ n ∧ rs.length = k ∧ s.1.length ≤ mx ∧ DN B W wr E v s A c rs xs ∧ tot = manyT rdIt xs (n - k) s
set_option maxRecDepth 100000 in
set_option maxHeartbeats 4000000 in
theorem r4dr_any (w : World) (A : Option Addr) (c n : Nat) (l : List UInt8) (hn : l.length = n) (hs : Sl w A (bv l)) (hcap : l.length ≤ c) (hlb : l.length ≤ 140737488355328) : Calls Tryz.prog 32 #[.slice A n c] w (RDrTo w l) := by
  obtain ⟨s, e0⟩ : ∃ s, openR l 2 = s := ⟨_, rfl⟩
  have b0 := openR_len l 2
  rw [e0] at b0
  obtain ⟨m, s1, e1⟩ := rd_eq (rdNum 1000) s
  have b1 := rdNum_bd 1000 s
  rw [e1] at b1
  simp only at b0 b1
  have m0 : s.1.length ≤ 140737488355328 := by omega
  have m1 : s1.1.length ≤ 140737488355328 := by omega
  have n1000 : m ≤ 1000 := b1.1
  obtain ⟨tot, htot⟩ : ∃ tot, tot = rdMany rdIt m s1 := ⟨_, rfl⟩
  have hR : rdDr l = if tot.2 = ([], false) ∧ rightDr tot.1 = true then some tot.1 else none := by
    unfold rdDr
    rw [e0]
    dsimp only
    rw [e1]
    dsimp only
    rw [← htot]
  rw [manyT_start rdIt m s1 (rdNum_bad0 e1)] at htot
  have HR := Lib.hid hR
  have E0 := Lib.hid e0
  have E1 := Lib.hid e1
  have HT := Lib.hid htot
  have hlt := Lib.hid (fun h => hs.blkLt h)
  obtain ⟨B, hBe⟩ : ∃ B, B = w.heap.size := ⟨_, rfl⟩
  rw [← hBe] at hlt
  have hB : B ≤ w.heap.size := by omega
  clear hR e0 e1 b0 b1 htot hBe
  go_enter Tryz.func32, Tryz.ntmps32
  go_upto_region 2 with (first
    | (go_at_call 73; refine (r4open_z B w A c n l hn hs hcap hlb hlt.out 2 2 rfl s E0.out).mono ?_; rintro e wo ⟨v0, rfl, h0, fo⟩)
    | (go_at_call 72; refine (getnum_z B _ v0 s h0 m0 1000 1000 rfl (by decide) m s1 E1.out).mono ?_; rintro e w1 ⟨v1, rfl, hz, f1⟩))
  have fa : Fr noB w1 (w1.alloc (codN.o v1)) := (Fr.refl noB w1).alloc _
  have b1 := Cod.bxd_new (C := codN) w1 v1
  have h1 := hz.fr fa
  have f01 := fo.step0 f1
  have f2 := f01.step0 fa
  have oE : w.heap.size ≤ w1.heap.size := f01.size
  clear fo f1 f01 fa hz h0 hs
  generalize w1.alloc (codN.o v1) = W1 at b1 h1 f2 ⊢
  generalize w1.heap.size = E at b1 oE ⊢
  have hown := World.ownsRow_lit (base := w.heap.size) (e := 77) (size := 38) W1 #[] 0 f2.size (by simp [maxLen]) rfl
  go_upto_region 3 with fail
  have fa := (Fr.refl noB W1).alloc (.cells #[] 77)
  go_upto_region 4 with fail
  go_loopg [6, 7] m (fun gk u iv wr => DnR B w E m 140737488355328 tot gk u iv wr)
  case atStart =>
    exact ⟨0, [], [], s1, v1, _, _, rfl, rfl, by omega, by omega, rfl, m1, ⟨Cod.bxd_fr0 b1 fa, h1.fr fa, hown, ⟨rfl, fun i h => absurd h (by simp)⟩, f2.step0 fa, hB, oE⟩, by rw [HT.out, Nat.sub_zero]⟩
  case round =>
    obtain ⟨k, rs, xs, sk, vk, A5, c5, rfl, rfl, rfl, hk, hl, hmx, hd, htot⟩ := hrel
    have kE := (nAt (Cod.bxd_rd hd.es)).bad
    rw [hd.inn.bad] at kE
    have kV := Cod.bxd_rd hd.es
    by_cases hgo : k < m ∧ sk.2 = false
    · obtain ⟨hlt, hskb⟩ := hgo
      rw [hskb] at kE
      have i1 : (k : Int) < (m : Int) := by omega
      have bx := rdIt_len sk
      obtain ⟨x, sn, ex⟩ := rd_eq rdIt sk
      rw [ex] at bx
      have EX := Lib.hid ex
      have hmn : sn.1.length ≤ 140737488355328 := Nat.le_trans bx hmx
      have HT2 := Lib.hid (htot.trans (manyT_step rdIt m k hlt xs sk sn _ hskb ex))
      have HL := Lib.hid hl
      have HLT := Lib.hid hlt
      clear bx htot hl hlt ex hskb
      go_upto_region 7 with (go_at_call 74; refine (r4item_z B _ hd.size _ _ hd.inn hmx x _ EX.out).mono ?_; rintro e w1 ⟨r, va, rfl, hin, hro, hz, f1⟩; obtain ⟨W1', W2, st1, st2, fa, ta, tb⟩ := two_new okT okN w1 zItW r zInV va)
      have fr := f1.step0 fa
      replace hro := own_base hro hd.fr.size
      replace hro := own_new0 hro fa
      replace hin := hin.fr fa
      replace hd := hd.new fr
      have ha := hz.fr fa
      have qa := Cod.bxd_rd ta
      have qe := tb
      clear st1 st2 hz f1 fa ta tb fr kE kV
      generalize w1.heap.size = Na at qa qe ⊢
      have fn : Fr noB W2 (W2.alloc (codT.ro [r])) := (Fr.refl noB W2).alloc _
      have sl := Cod.sl_new (C := codT) W2 [r]
      replace hd := hd.new fn
      replace hin := hin.fr fn
      replace hro := own_new0 hro fn
      replace ha := ha.fr fn
      replace qe := Cod.bxd_fr0 qe fn
      clear fn
      go_upto_region 8 with (at_builtin; refine wpList_appC' etT w _ rfl _ _ rfl A5 rs.length c5 rs rfl rfl hd.own (some ⟨W2.heap.size, 0, none⟩) 1 1 [r] rfl sl rfl (by have := HL.out; have := HLT.out; simp; omega) hd.fr.size ?_; intro A6 c6 w6 hc6 hm6 ho6 hg6 hA6; have ha6 := hd.inG hg6 ha; have qe6 := bxd_grow qe hd.own (by decide) hg6; replace hd := hd.grow hg6 ho6 hin hro; obtain ⟨rs', hrs'⟩ : ∃ rs', rs' = rs ++ [r] := ⟨_, rfl⟩; rw [← hrs'] at hd ⊢; have HRS := Lib.hid hrs'; clear hrs')
      have qv := Cod.bxd_rd qe6
      have hst := okN.stR_box hd.es va
      simp only [Cod.v] at hst
      have hd' := hd.rdr ha6
      clear qa qe ha sl hin hro ho6 hg6 hA6
      go_wp2_with fail
      go_roundg (m - (k + 1))
      case measure => omega
      case rel => exact ⟨k + 1, rs', xs ++ [x], sn, va, A6, c6, rfl, by simp, rfl, by have := HLT.out; omega, by rw [HRS.out]; simp [HL.out], hmn, hd', HT2.out⟩
    · have hor : sk.2 = true ∨ m ≤ k := by
        by_cases hlt : k < m
        · left
          by_cases hs : sk.2 = false
          · exact absurd ⟨hlt, hs⟩ hgo
          · simpa using hs
        · right; omega
      rw [manyT_end rdIt m k xs sk hor] at htot
      have HTF := Lib.hid htot
      have hrb : rs.length ≤ 140737488355328 := by omega
      have hit := hd.its.its
      have hrow := hd.own
      have hfin := hd.fr
      have HRD := Lib.hid (fun w'' (f : Fr noB wr w'') => r4dir_any w'' A5 c5 rs.length rs xs rfl ((Sl.own hrow).fr0 f) hrb (hit.fr f))
      clear htot hl hgo
      by_cases hlt : k < m
      · have hb1 : sk.2 = true := by rcases hor with h | h; exact h; omega
        rw [hb1] at kE
        have i1 : (k : Int) < (m : Int) := by omega
        clear hor hlt hb1
        go_upto_region 9 with fail
        clear kE
        by_cases hdn : sk = ([], false)
        · have D := Lib.hid (show decide (sk = ([], false)) = true by simp [hdn])
          have D' := Lib.hid hdn
          clear hdn
          by_cases hrt : rightDr xs = true
          · have HL := Lib.hid (show rdDr l = some xs by rw [HR.out, HTF.out]; exact if_pos ⟨D'.out, hrt⟩)
            go_wp2_with (first
              | (go_at_call 75; refine (r2done_z _ _ _ hd.inn).mono ?_; rintro e wz ⟨rfl, hfd⟩; rw [D.out])
              | (go_at_call 16; refine (HRD.out _ hfd).mono ?_; rintro e wy ⟨rfl, hf⟩; rw [hrt]; replace hd := hd.new (hfd.step0 hf)))
            refine bodyPost_ret (results_tmp2 rfl _ _ _) rfl ?_
            refine ⟨A5, c5, rs, by rw [HL.out]; rfl, hd.fr, hd.own, ?_⟩
            rw [HL.out]
            exact hd.its
          · have hrt' : rightDr xs = false := by simpa using hrt
            have HL := Lib.hid (show rdDr l = none by rw [HR.out, HTF.out]; exact if_neg (fun h => hrt h.2))
            clear hrt
            go_wp2_with (first
              | (go_at_call 75; refine (r2done_z _ _ _ hd.inn).mono ?_; rintro e wz ⟨rfl, hfd⟩; rw [D.out])
              | (go_at_call 16; refine (HRD.out _ hfd).mono ?_; rintro e wy ⟨rfl, hf⟩; rw [hrt']; replace hfin := hfin.step0 (hfd.step0 hf)))
            refine bodyPost_ret (results_tmp2 rfl _ _ _) rfl ?_
            refine ⟨none, 0, [], by rw [HL.out]; rfl, hfin, World.ownsRow_nil _ _ _ _, ?_⟩
            rw [HL.out]
            exact ⟨rfl, fun i h => absurd h (by simp)⟩
        · have D := Lib.hid (show decide (sk = ([], false)) = false by simp [hdn])
          have HL := Lib.hid (show rdDr l = none by rw [HR.out, HTF.out]; exact if_neg (fun h => hdn h.1))
          clear hdn
          go_wp2_with (go_at_call 75; refine (r2done_z _ _ _ hd.inn).mono ?_; rintro e wz ⟨rfl, hfd⟩; rw [D.out])
          refine bodyPost_ret (results_tmp2 rfl _ _ _) rfl ?_
          refine ⟨none, 0, [], by rw [HL.out]; rfl, hfin.step0 hfd, World.ownsRow_nil _ _ _ _, ?_⟩
          rw [HL.out]
          exact ⟨rfl, fun i h => absurd h (by simp)⟩
      · have i1 : ¬ (k : Int) < (m : Int) := by omega
        clear hor hlt
        go_upto_region 9 with fail
        clear kE
        by_cases hdn : sk = ([], false)
        · have D := Lib.hid (show decide (sk = ([], false)) = true by simp [hdn])
          have D' := Lib.hid hdn
          clear hdn
          by_cases hrt : rightDr xs = true
          · have HL := Lib.hid (show rdDr l = some xs by rw [HR.out, HTF.out]; exact if_pos ⟨D'.out, hrt⟩)
            go_wp2_with (first
              | (go_at_call 75; refine (r2done_z _ _ _ hd.inn).mono ?_; rintro e wz ⟨rfl, hfd⟩; rw [D.out])
              | (go_at_call 16; refine (HRD.out _ hfd).mono ?_; rintro e wy ⟨rfl, hf⟩; rw [hrt]; replace hd := hd.new (hfd.step0 hf)))
            refine bodyPost_ret (results_tmp2 rfl _ _ _) rfl ?_
            refine ⟨A5, c5, rs, by rw [HL.out]; rfl, hd.fr, hd.own, ?_⟩
            rw [HL.out]
            exact hd.its
          · have hrt' : rightDr xs = false := by simpa using hrt
            have HL := Lib.hid (show rdDr l = none by rw [HR.out, HTF.out]; exact if_neg (fun h => hrt h.2))
            clear hrt
            go_wp2_with (first
              | (go_at_call 75; refine (r2done_z _ _ _ hd.inn).mono ?_; rintro e wz ⟨rfl, hfd⟩; rw [D.out])
              | (go_at_call 16; refine (HRD.out _ hfd).mono ?_; rintro e wy ⟨rfl, hf⟩; rw [hrt']; replace hfin := hfin.step0 (hfd.step0 hf)))
            refine bodyPost_ret (results_tmp2 rfl _ _ _) rfl ?_
            refine ⟨none, 0, [], by rw [HL.out]; rfl, hfin, World.ownsRow_nil _ _ _ _, ?_⟩
            rw [HL.out]
            exact ⟨rfl, fun i h => absurd h (by simp)⟩
        · have D := Lib.hid (show decide (sk = ([], false)) = false by simp [hdn])
          have HL := Lib.hid (show rdDr l = none by rw [HR.out, HTF.out]; exact if_neg (fun h => hdn h.1))
          clear hdn
          go_wp2_with (go_at_call 75; refine (r2done_z _ _ _ hd.inn).mono ?_; rintro e wz ⟨rfl, hfd⟩; rw [D.out])
          refine bodyPost_ret (results_tmp2 rfl _ _ _) rfl ?_
          refine ⟨none, 0, [], by rw [HL.out]; rfl, hfin.step0 hfd, World.ownsRow_nil _ _ _ _, ?_⟩
          rw [HL.out]
          exact ⟨rfl, fun i h => absurd h (by simp)⟩
end Go.Proofs.YtejkfekpgbmdiaaGreat
namespace Go.Proofs.YtejkfekpgbmdiaaGreat
open Go.RowKit
set_option linter.unusedVariables false
set_option linter.unusedSimpArgs false

theorem RM.swap {α : Type} {C : Cod α} {B : Nat} {W w : World} {R E P E' : Nat} {v v' : InV} {s s' : RS} {z r : α} (h : RM C B W w R E P v s z r) (hb : codN.bxd w E' = some v') (hi : InAt B w v' s') (h1 : R < E') (h2 : E' ≠ P) : RM C B W w R E' P v' s' z r :=
  ⟨h.rs, hb, hi, h.bx, h.fr, h.hB, h.o1, h1, h.o3, h2⟩
/-- the result's variable is turned -/
theorem RM.res {α : Type} {C : Cod α} {B : Nat} {W w : World} {R E P : Nat} {v : InV} {s : RS} {z r : α} (h : RM C B W w R E P v s z r) (z' : α) : RM C B W (C.put w R z') R E P v s z' r := by
  have h1 := h.o1; have h2 := h.o2; have h3 := h.o3; have h4 := h.o4; have h5 := h.hB
  obtain ⟨f, _, hb⟩ := Cod.put_fr h.rs z'
  exact ⟨hb, Cod.bxd_fr h.es f (fun e => by simp only [oneB] at e; omega), h.inn.box (by omega) f, Cod.bxd_fr h.bx f (fun e => by simp only [oneB] at e; omega), h.fr.step f (fun b hb => .inl (by simp only [oneB] at hb; omega)), h.hB, h.o1, h.o2, h.o3, h.o4⟩
theorem Rws.in_ {W w w' : World} {A B : Option Addr} {c d : Nat} {ps : List ID} {rs : List OpW} {os : List Opn} (h : Rws W w A c ps B d rs os) {E : Nat} {v : InV} (hb : codN.bxd w E = some v) (f : Fr (oneB E) w w') : Rws W w' A c ps B d rs os := h.box (Cod.bxd_blk hb) (by decide) (by decide) (by decide) f
/-- a commit: is there one? -/
def RChTo (w : World) (l : List UInt8) (e : Ending) (w' : World) : Prop :=
  ∃ r rs, e = .returned (.tuple #[.agg (codC.A r), .bool (rdCh l).isSome]) ∧ Fr noB w w' ∧ (rdCh l = none → r = zCgW) ∧ (∀ c, rdCh l = some c → CgIn w' r rs c ∧ r.pn = c.Parents.length ∧ r.on = rs.length ∧ Rws w w' r.PA r.pc c.Parents r.OA r.oc rs c.Ops)
def RcP (B : Nat) (w : World) (R E P n mx : Nat) (tot : List ID × RS) (gk : Nat) (iv : Value) (wr : World) : Prop :=
  ∃ (k : Nat) (ps : List ID) (s : RS) (v : InV) (A : Option Addr) (c : Nat), iv = .int .i64 (k : Int) ∧ gk = n - k ∧ k ≤ n ∧ ps.length = k ∧ s.1.length ≤ mx ∧ RM codC B w wr R E P v s zCgW { zCgW with PA := A, pn := ps.length, pc := c } ∧ Rws w wr A c ps none 0 [] [] ∧ tot = (ps ++ (rdAll rdId (n - k) s).1, (rdAll rdId (n - k) s).2)
def RcO (B : Nat) (w : World) (R E P n mx : Nat) (r0 : CgW) (A : Option Addr) (c : Nat) (ps : List ID) (tot : List Opn × RS) (gk : Nat) (iv : Value) (wr : World) : Prop :=
  ∃ (k : Nat) (rs : List OpW) (os : List Opn) (s : RS) (v : InV) (D : Option Addr) (d : Nat), iv = .int .i64 (k : Int) ∧ gk = n - k ∧ k ≤ n ∧ rs.length = k ∧ s.1.length ≤ mx ∧ RM codC B w wr R E P v s zCgW { r0 with OA := D, on := rs.length, oc := d } ∧ Rws w wr A c ps D d rs os ∧ tot = manyT rdOp os (n - k) s
set_option maxRecDepth 100000 in
set_option maxHeartbeats 8000000 in
theorem r4ch_any (w : World) (A : Option Addr) (c n : Nat) (l : List UInt8) (hn : l.length = n) (hs : Sl w A (bv l)) (hcap : l.length ≤ c) (hlb : l.length ≤ 140737488355328) : Calls Tryz.prog 33 #[.slice A n c] w (RChTo w l) := by
  obtain ⟨s, e0⟩ : ∃ s, openR l 3 = s := ⟨_, rfl⟩
  have b0 := openR_len l 3
  rw [e0] at b0
  obtain ⟨pn, s1, e1⟩ := rd_eq (rdNum 2) s
  have b1 := rdNum_bd 2 s
  rw [e1] at b1
  obtain ⟨ps, s2, e2⟩ := rd_eq (rdAll rdId pn) s1
  have b2 := rdAll_len rdId_len pn s1
  rw [e2] at b2
  obtain ⟨ti, s3, e3⟩ := rd_eq (rdNum 1099511627776) s2
  have b3 := rdNum_bd 1099511627776 s2
  rw [e3] at b3
  obtain ⟨re, s4, e4⟩ := rd_eq (rdNum 65536) s3
  have b4 := rdNum_bd 65536 s3
  rw [e4] at b4
  obtain ⟨on, s5, e5⟩ := rd_eq (rdNum 64) s4
  have b5 := rdNum_bd 64 s4
  rw [e5] at b5
  obtain ⟨os, s6, e6⟩ := rd_eq (manyT rdOp [] on) s5
  have b6 : s6.1.length ≤ s5.1.length := by
    have e := manyT_start rdOp on s5 (rdNum_bad0 e5)
    rw [e6] at e
    have := (rdMany_len rdOp_len on s5).2
    rw [e] at this
    exact this
  have hall := manyT_all (f := rdOp) Ext.opn.go on [] s5
  rw [e6] at hall
  simp only [List.nil_append] at hall
  obtain ⟨tr, s7, e7⟩ := rd_eq rdId s6
  have b7 := rdId_len s6
  rw [e7] at b7
  obtain ⟨mg, s8, e8⟩ := rd_eq (rdText 200) s7
  have c8 := rdText_le 200 s7
  rw [e8] at c8
  simp only at b0 b1 b2 b3 b4 b5 b6 b7 c8
  have m0 : s.1.length ≤ 140737488355328 := by omega
  have m1 : s1.1.length ≤ 140737488355328 := by omega
  have m2 : s2.1.length ≤ 140737488355328 := by omega
  have m3 : s3.1.length ≤ 140737488355328 := by omega
  have m4 : s4.1.length ≤ 140737488355328 := by omega
  have m5 : s5.1.length ≤ 140737488355328 := by omega
  have m6 : s6.1.length ≤ 140737488355328 := by omega
  have m7 : s7.1.length ≤ 140737488355328 := by omega
  have pn2 : pn ≤ 2 := b1.1
  have on64 : on ≤ 64 := b5.1
  have hR : rdCh l = if s8 = ([], false) ∧ rightCh ⟨ps, (ti : Int), (re : Int), os, tr, mg⟩ = true then some ⟨ps, (ti : Int), (re : Int), os, tr, mg⟩ else none := by
    unfold rdCh
    rw [e0]
    dsimp only
    rw [e1]
    dsimp only
    rw [e2]
    dsimp only
    rw [e3]
    dsimp only
    rw [e4]
    dsimp only
    rw [e5]
    dsimp only
    cases hb6 : s6.2 with
    | true =>
      have h1 := hall.1 hb6
      have h2 := Ext.id.go _ h1
      have h3 := (Ext.text 200).go _ h2
      have h4 := Ext.id.go _ hb6
      rw [e7] at h4
      have h5 := (Ext.text 200).go _ h4
      rw [e8] at h5
      rw [if_neg (fun h => by rw [h.1] at h3; cases h3), if_neg (fun h => by rw [h.1] at h5; cases h5)]
    | false =>
      have h1 := hall.2 hb6
      rw [← Prod.eta (rdAll rdOp on s5), ← h1]
      dsimp only
      rw [e7]
      dsimp only
      rw [e8]
  have HR := Lib.hid hR
  have E0 := Lib.hid e0
  have E1 := Lib.hid e1
  have E2 := Lib.hid e2
  have E3 := Lib.hid e3
  have E4 := Lib.hid e4
  have E5 := Lib.hid e5
  have E6 := Lib.hid e6
  have E7 := Lib.hid e7
  have E8 := Lib.hid e8
  have C8 := Lib.hid c8
  have f2 : Fr noB w (w.alloc (codC.o zCgW)) := (Fr.refl noB w).alloc _
  have r2 : codC.bxd (w.alloc (codC.o zCgW)) w.heap.size = some zCgW := Cod.bxd_new _ _
  have hlt := Lib.hid (fun h => hs.blkLt h)
  replace hs := hs.fr0 f2
  obtain ⟨B, hBe⟩ : ∃ B, B = w.heap.size := ⟨_, rfl⟩
  rw [← hBe] at hlt
  have hB : B ≤ w.heap.size := by omega
  clear hR e0 e1 e2 e3 e4 e5 e6 e7 e8 b0 b1 b2 b3 b4 b5 b6 b7 c8 hBe hall
  go_enter Tryz.func33, Tryz.ntmps33
  go_upto_region 1 with fail
  generalize w.alloc (codC.o zCgW) = w0 at f2 r2 hs ⊢
  generalize hRe : w.heap.size = R at r2 ⊢
  have hRw : w.heap.size ≤ R := by omega
  clear hRe
  go_upto_region 2 with (first
    | (go_at_call 73; refine (r4open_z B w0 A c n l hn hs hcap hlb hlt.out 3 3 rfl s E0.out).mono ?_; rintro e wo ⟨v0, rfl, h0, fo⟩)
    | (go_at_call 72; refine (getnum_z B _ v0 s h0 m0 2 2 rfl (by decide) pn s1 E1.out).mono ?_; rintro e w1 ⟨v1, rfl, hz, f1⟩))
  have fa : Fr noB w1 (w1.alloc (codN.o v1)) := (Fr.refl noB w1).alloc _
  have b1 := Cod.bxd_new (C := codN) w1 v1
  have h1 := hz.fr fa
  have f01 := fo.step0 f1
  have hRE : R < w1.heap.size := Nat.lt_of_lt_of_le (Cod.bxd_lt r2) f01.size
  replace r2 := Cod.bxd_fr0 r2 (f01.step0 fa)
  replace f2 := f2.step0 (f01.step0 fa)
  clear fo f1 f01 fa hz h0 hs
  generalize w1.alloc (codN.o v1) = W1 at b1 h1 r2 f2 ⊢
  generalize w1.heap.size = E at b1 hRE ⊢
  have fa : Fr noB W1 (W1.alloc (codC.o zCgW)) := (Fr.refl noB W1).alloc _
  have hEP := Cod.bxd_lt b1
  have hb : RM codC B w (W1.alloc (codC.o zCgW)) R E W1.heap.size v1 s1 zCgW zCgW :=
    ⟨Cod.bxd_fr0 r2 fa, Cod.bxd_fr0 b1 fa, h1.fr fa, Cod.bxd_new _ _, f2.step0 fa, hB, hRw, hRE, by omega, by omega⟩
  go_upto_region 3 with fail
  generalize W1.alloc (codC.o zCgW) = W2 at hb ⊢
  generalize W1.heap.size = P at hb ⊢
  clear fa b1 h1 r2 f2 hRE hEP hRw
  go_upto_region 4 with fail
  go_loopg [7] pn (fun gk iv wr => RcP B w R E P pn 140737488355328 (ps, s2) gk iv wr)
  case atStart => exact ⟨0, [], s1, v1, none, 0, rfl, by omega, by omega, rfl, m1, hb, ⟨World.ownsRow_nil _ _ _ _, World.ownsRow_nil _ _ _ _, ⟨rfl, fun i h => absurd h (by simp)⟩⟩, by rw [Nat.sub_zero, E2.out]; simp⟩
  case round =>
    obtain ⟨k, qs, sk, vk, A1, c1, rfl, rfl, hk, hl, hmx, hb, hw, htot⟩ := hrel
    have kV := Cod.bxd_rd hb.es
    by_cases hlt : k < pn
    · have i1 : (k : Int) < (pn : Int) := by omega
      obtain ⟨x, sn, ex⟩ := rd_eq rdId sk
      have hmn : sn.1.length ≤ 140737488355328 := by
        have := rdId_len sk
        rw [ex] at this
        exact Nat.le_trans this hmx
      have EX := Lib.hid ex
      have HT2 := Lib.hid (show (ps, s2) = ((qs ++ [x]) ++ (rdAll rdId (pn - (k + 1)) sn).1, (rdAll rdId (pn - (k + 1)) sn).2) by
        rw [htot, show pn - k = pn - (k + 1) + 1 by omega]; exact rdAll_step _ _ _ _ _ _ ex)
      have HL := Lib.hid hl
      have HLT := Lib.hid hlt
      clear ex htot hl hlt
      go_upto_region 7 with (go_at_call 76; refine (r2getid_z B _ hb.size _ _ hb.inn hmx x _ EX.out).mono ?_; rintro e w1 ⟨va, rfl, hz, f1⟩; obtain ⟨W3, st1, st2, fa, ta, tb⟩ := two_newA okN w1 x zInV va)
      have fr := f1.step0 fa
      replace hb := hb.new fr
      replace hw := hw.new fr
      have ha := hz.fr fa
      have qa := bxA_rd ta
      have qe := tb
      clear st1 st2 hz f1 fa ta tb fr kV
      generalize w1.heap.size = Na at qa qe ⊢
      have k37 := (cgAt (Cod.bxd_rd hb.bx)).parents
      have fn : Fr noB W3 (W3.alloc (rowo [x])) := (Fr.refl noB W3).alloc _
      have sl : Sl (W3.alloc (rowo [x])) (some ⟨W3.heap.size, 0, none⟩) (codI.row [x]) := sl_new W3 [x]
      replace hb := hb.new fn
      replace hw := hw.new fn
      replace ha := ha.fr fn
      replace qe := Cod.bxd_fr0 qe fn
      clear fn
      go_upto_region 8 with (at_builtin; refine wpList_appC' etI w _ rfl _ _ rfl A1 qs.length c1 qs rfl rfl hw.hps (some ⟨W3.heap.size, 0, none⟩) 1 1 [x] rfl sl rfl (by have := HL.out; have := HLT.out; simp; omega) hb.fr.size ?_; intro A5 c5 w5 hc5 hm5 ho5 hg5 hA5; have hd0 := RM.inG hb hw.hps hg5 ha; have qe0 := bxd_grow qe hw.hps (by decide) hg5; replace hb := hb.grow hw.hps (by decide) (by decide) hg5; replace hw := hw.growP hg5 ho5; obtain ⟨l', hl'⟩ : ∃ l', l' = qs ++ [x] := ⟨_, rfl⟩; rw [← hl'] at hw ⊢; have HL' := Lib.hid hl'; clear hl'; have k38 := (cgAt (Cod.bxd_rd hb.bx)).parents; have k39 := (Cod.bxd_blk hb.bx).frozen 0)
      have fs := Cod.set_fr w5 P 0 (.slice A5 l'.length c5)
      replace hw := hw.var hb.bx fs
      have hd1 := hd0.box hb.BP fs
      have nNP : Na + 1 ≠ P := Blk.ne (Cod.bxd_blk qe0) (Cod.bxd_blk hb.bx) (by decide)
      have qe1 := Cod.bxd_fr qe0 fs (fun e => nNP e)
      replace hb := hb.set 0 (.slice A5 l'.length c5) _ (seC_Parents _ A5 _ c5)
      clear k37 k38 k39 sl ho5 hg5 hA5 fs hd0 qe0 nNP qa ha qe
      generalize World.setCell _ _ _ = W4 at hb hw hd1 qe1 ⊢
      have qv := Cod.bxd_rd qe1
      have hst := okN.stR_box hb.es va
      simp only [Cod.v] at hst
      have hw' := hw.in_ hb.es (hb.rfr va)
      have hb' := hb.rdr hd1
      go_wp2_with fail
      go_roundg (pn - (k + 1))
      case measure => omega
      case rel => exact ⟨k + 1, l', sn, va, A5, c5, by simp, rfl, by have := HLT.out; omega, by rw [HL'.out]; simp [HL.out], hmn, hb', hw', by rw [HL'.out]; exact HT2.out⟩
    · have hkn : k = pn := by omega
      subst hkn
      have i1 : ¬ (k : Int) < (k : Int) := by omega
      rw [Nat.sub_self] at htot
      simp only [rdAll, List.append_nil] at htot
      injection htot with ht1 ht2
      obtain rfl : qs = ps := ht1.symm
      obtain rfl : sk = s2 := ht2.symm
      have HPL := Lib.hid (show qs.length ≤ 2 by omega)
      clear hl ht1 ht2 hlt
      have h2 := hb.inn
      go_upto_region 10 with (go_at_call 72; refine (getnum_z B _ _ _ h2 m2 1099511627776 1099511627776 rfl (by decide) ti _ E3.out).mono ?_; rintro e w1 ⟨v3, rfl, hz, f1⟩)
      have fa : Fr noB w1 (w1.alloc (codN.o v3)) := (Fr.refl noB w1).alloc _
      have b3 := Cod.bxd_new (C := codN) w1 v3
      have q3 := Cod.bxd_rd b3
      have fr := f1.step0 fa
      have i3 : R < w1.heap.size := Nat.lt_of_lt_of_le (Cod.bxd_lt hb.rs) f1.size
      replace hb := hb.new fr
      replace hw := hw.new fr
      have h3 := hz.fr fa
      clear hz f1 fa h2 fr
      generalize w1.alloc (codN.o v3) = W3 at b3 q3 hb hw h3 ⊢
      generalize w1.heap.size = N3 at b3 q3 i3 ⊢
      clear b3 i3 kV
      go_upto_region 11 with (go_at_call 72; refine (getnum_z B _ _ _ h3 m3 65536 65536 rfl (by decide) re _ E4.out).mono ?_; rintro e w1 ⟨v4, rfl, hz, f1⟩)
      have fa : Fr noB w1 (w1.alloc (codN.o v4)) := (Fr.refl noB w1).alloc _
      have b4 := Cod.bxd_new (C := codN) w1 v4
      have q4 := Cod.bxd_rd b4
      have fr := f1.step0 fa
      have i4 : R < w1.heap.size := Nat.lt_of_lt_of_le (Cod.bxd_lt hb.rs) f1.size
      replace hb := hb.new fr
      replace hw := hw.new fr
      have h4 := hz.fr fa
      clear hz f1 fa h3 fr
      generalize w1.alloc (codN.o v4) = W4 at b4 q4 hb hw h4 ⊢
      generalize w1.heap.size = N4 at b4 q4 i4 ⊢
      clear b4 i4 q3
      go_upto_region 12 with (go_at_call 72; refine (getnum_z B _ _ _ h4 m4 64 64 rfl (by decide) on _ E5.out).mono ?_; rintro e w1 ⟨v5, rfl, hz, f1⟩)
      have fa : Fr noB w1 (w1.alloc (codN.o v5)) := (Fr.refl noB w1).alloc _
      have b5 := Cod.bxd_new (C := codN) w1 v5
      have q5 := Cod.bxd_rd b5
      have fr := f1.step0 fa
      have i5 : R < w1.heap.size := Nat.lt_of_lt_of_le (Cod.bxd_lt hb.rs) f1.size
      replace hb := hb.new fr
      replace hw := hw.new fr
      have h5 := hz.fr fa
      clear hz f1 fa h4 fr
      generalize w1.alloc (codN.o v5) = W5 at b5 q5 hb hw h5 ⊢
      generalize w1.heap.size = N5 at b5 q5 i5 ⊢
      clear q4 q5
      have nNP : N5 ≠ P := Blk.ne (Cod.bxd_blk b5) (Cod.bxd_blk hb.bx) (by decide)
      replace hb := hb.swap b5 h5 i5 nNP
      clear b5 h5 i5 nNP
      have k3 := (cgAt (Cod.bxd_rd hb.bx)).time
      have k4 := (Cod.bxd_blk hb.bx).frozen 1
      go_upto_region 13 with fail
      have gF := Cod.set_fr W5 P 1 (.int .i64 (ti : Int))
      replace hw := hw.var hb.bx gF
      replace hb := hb.set 1 (.int .i64 (ti : Int)) { zCgW with PA := A1, pn := qs.length, pc := c1, Time := (ti : Int) } (seC_Time _ _)
      clear k3 k4 gF
      generalize World.setCell _ _ _ = W at hb hw ⊢
      have k3 := (cgAt (Cod.bxd_rd hb.bx)).R
      have k4 := (Cod.bxd_blk hb.bx).frozen 2
      go_upto_region 14 with fail
      have gF := Cod.set_fr W P 2 (.int .i64 (re : Int))
      replace hw := hw.var hb.bx gF
      replace hb := hb.set 2 (.int .i64 (re : Int)) { zCgW with PA := A1, pn := qs.length, pc := c1, Time := (ti : Int), R := (re : Int) } (seC_R _ _)
      clear k3 k4 gF
      generalize World.setCell _ _ _ = W at hb hw ⊢
      generalize hr0 : ({ zCgW with PA := A1, pn := qs.length, pc := c1, Time := (ti : Int), R := (re : Int) } : CgW) = r0 at hb ⊢
      have R0 := Lib.hid hr0.symm
      clear hr0
      go_upto_region 15 with fail
      go_loopg [16] on (fun gk iv wr => RcO B w R N5 P on 140737488355328 r0 A1 c1 qs (os, s6) gk iv wr)
      case atStart => exact ⟨0, [], [], s5, v5, none, 0, rfl, by omega, by omega, rfl, m5, by
        have e : ({ r0 with OA := none, on := ([] : List OpW).length, oc := 0 } : CgW) = r0 := by rw [R0.out]; rfl
        rw [e]; exact hb, hw, by rw [Nat.sub_zero, E6.out]⟩
      case round =>
        obtain ⟨k, rs, oo, sk, vk, B1, d1, rfl, rfl, hk, hl, hmx, hb, hw, htot⟩ := hrel
        have kE := (nAt (Cod.bxd_rd hb.es)).bad
        rw [hb.inn.bad] at kE
        have kV := Cod.bxd_rd hb.es
        by_cases hgo : k < on ∧ sk.2 = false
        · obtain ⟨hlt, hskb⟩ := hgo
          rw [hskb] at kE
          have i1 : (k : Int) < (on : Int) := by omega
          have bx := rdOp_len sk
          obtain ⟨x, sn, ex⟩ := rd_eq rdOp sk
          rw [ex] at bx
          have hmn : sn.1.length ≤ 140737488355328 := Nat.le_trans bx hmx
          have EX := Lib.hid ex
          have HT2 := Lib.hid (htot.trans (manyT_step rdOp on k hlt oo sk sn _ hskb ex))
          have HL := Lib.hid hl
          have HLT := Lib.hid hlt
          clear ex htot hl hlt hskb bx
          go_upto_region 18 with (go_at_call 77; refine (r3get_z B _ hb.size _ _ hb.inn hmx x _ EX.out).mono ?_; rintro e w1 ⟨r, va, rfl, hin, hro, hz, f1⟩; obtain ⟨W1', W3, st1, st2, fa, ta, tb⟩ := two_new okO okN w1 zOpW r zInV va)
          have fr := f1.step0 fa
          replace hro := own_base hro hb.fr.size
          replace hro := own_new0 hro fa
          replace hin := hin.fr fa
          replace hb := hb.new fr
          replace hw := hw.new fr
          have ha := hz.fr fa
          have qa := Cod.bxd_rd ta
          have qe := tb
          clear st1 st2 hz f1 fa ta tb fr kE kV
          generalize w1.heap.size = Na at qa qe ⊢
          have k37 := (cgAt (Cod.bxd_rd hb.bx)).ops
          have fn : Fr noB W3 (W3.alloc (codO.ro [r])) := (Fr.refl noB W3).alloc _
          have sl := Cod.sl_new (C := codO) W3 [r]
          replace hb := hb.new fn
          replace hw := hw.new fn
          replace hin := hin.fr fn
          replace hro := own_new0 hro fn
          replace ha := ha.fr fn
          replace qe := Cod.bxd_fr0 qe fn
          clear fn
          go_upto_region 19 with (at_builtin; refine wpList_appC' etO w _ rfl _ _ rfl B1 rs.length d1 rs rfl rfl hw.hrs (some ⟨W3.heap.size, 0, none⟩) 1 1 [r] rfl sl rfl (by have := HL.out; have := HLT.out; simp; omega) hb.fr.size ?_; intro A5 c5 w5 hc5 hm5 ho5 hg5 hA5; have hd0 := RM.inG hb hw.hrs hg5 ha; have qe0 := bxd_grow qe hw.hrs (by decide) hg5; replace hb := hb.grow hw.hrs (by decide) (by decide) hg5; replace hw := hw.growO hg5 ho5 hin hro; obtain ⟨l', hl'⟩ : ∃ l', l' = rs ++ [r] := ⟨_, rfl⟩; rw [← hl'] at hw ⊢; have HL' := Lib.hid hl'; clear hl'; have k38 := (cgAt (Cod.bxd_rd hb.bx)).ops; have k39 := (Cod.bxd_blk hb.bx).frozen 3)
          have fs := Cod.set_fr w5 P 3 (.slice A5 l'.length c5)
          replace hw := hw.var hb.bx fs
          have hd1 := hd0.box hb.BP fs
          have nNP : Na + 1 ≠ P := Blk.ne (Cod.bxd_blk qe0) (Cod.bxd_blk hb.bx) (by decide)
          have qe1 := Cod.bxd_fr qe0 fs (fun e => nNP e)
          replace hb := hb.set 3 (.slice A5 l'.length c5) _ (seC_Ops _ A5 _ c5)
          clear k37 k38 k39 sl ho5 hg5 hA5 fs hd0 qe0 nNP qa ha qe hin hro
          generalize World.setCell _ _ _ = W4 at hb hw hd1 qe1 ⊢
          have qv := Cod.bxd_rd qe1
          have hst := okN.stR_box hb.es va
          simp only [Cod.v] at hst
          have hw' := hw.in_ hb.es (hb.rfr va)
          have hb' := hb.rdr hd1
          go_wp2_with fail
          go_roundg (on - (k + 1))
          case measure => omega
          case rel => exact ⟨k + 1, l', oo ++ [x], sn, va, A5, c5, by simp, rfl, by have := HLT.out; omega, by rw [HL'.out]; simp [HL.out], hmn, hb', hw', HT2.out⟩
        · have hor : sk.2 = true ∨ on ≤ k := by
            by_cases hlt : k < on
            · left
              by_cases hs : sk.2 = false
              · exact absurd ⟨hlt, hs⟩ hgo
              · simpa using hs
            · right; omega
          rw [manyT_end rdOp on k oo sk hor] at htot
          injection htot with ht1 ht2
          obtain rfl : oo = os := ht1.symm
          obtain rfl : sk = s6 := ht2.symm
          have HOL := Lib.hid (show rs.length ≤ 64 by omega)
          clear hl hgo ht1 ht2
          by_cases hlt : k < on
          · have hb1 : sk.2 = true := by rcases hor with h | h; exact h; omega
            rw [hb1] at kE
            have i1 : (k : Int) < (on : Int) := by omega
            clear hor hlt hb1
            go_upto_region 20 with fail
            clear kE
            go_upto_region 21 with (go_at_call 76; refine (r2getid_z B _ hb.size _ _ hb.inn m6 tr _ E7.out).mono ?_; rintro e w1 ⟨v7, rfl, hz, f1⟩; obtain ⟨W6, st1, st2, fa, ta, tb⟩ := two_newA okN w1 tr zInV v7)
            have fr := f1.step0 fa
            replace hb := hb.new fr
            replace hw := hw.new fr
            have h7 := hz.fr fa
            have a7 := bxA_rd ta
            have q7 := Cod.bxd_rd tb
            clear st1 st2 hz f1 fa ta tb fr kV
            generalize w1.heap.size = N7 at a7 q7 ⊢
            go_upto_region 22 with (go_at_call 78; refine (r2gettext_z B _ hb.size _ _ h7 m7 200 200 rfl (by decide) mg _ E8.out).mono ?_; rintro e w1 ⟨v8, rfl, hz, f1⟩)
            have fa : Fr noB w1 (w1.alloc (codN.o v8)) := (Fr.refl noB w1).alloc _
            have b8 := Cod.bxd_new (C := codN) w1 v8
            have fr := f1.step0 fa
            replace hb := hb.new fr
            replace hw := hw.new fr
            replace a7 := rdI_fr a7 (rdI_lt a7) fr (by simp [noB])
            have h8 := hz.fr fa
            clear hz f1 fa fr h7 q7
            generalize w1.alloc (codN.o v8) = W7 at b8 a7 hb hw h8 ⊢
            generalize w1.heap.size = N8 at b8 ⊢
            have nNP : N8 ≠ P := Blk.ne (Cod.bxd_blk b8) (Cod.bxd_blk hb.bx) (by decide)
            have hst := stC_Tree hb.bx tr
            have gF := (Cod.put_fr hb.bx { r0 with OA := B1, on := rs.length, oc := d1, Tree := tr }).1
            replace hw := hw.var hb.bx gF
            replace h8 := h8.box hb.BP gF
            replace b8 := Cod.bxd_fr b8 gF (fun e => nNP e)
            replace hb := hb.put { r0 with OA := B1, on := rs.length, oc := d1, Tree := tr }
            go_upto_region 23 with fail
            clear hst gF a7
            generalize codC.put W7 P _ = W at hb hw h8 b8 ⊢
            have k3 := (cgAt (Cod.bxd_rd hb.bx)).msg
            have k4 := (Cod.bxd_blk hb.bx).frozen 36
            have gF := Cod.set_fr W P 36 (.string (str mg))
            replace hw := hw.var hb.bx gF
            replace h8 := h8.box hb.BP gF
            replace b8 := Cod.bxd_fr b8 gF (fun e => nNP e)
            replace hb := hb.set 36 (.string (str mg)) { r0 with OA := B1, on := rs.length, oc := d1, Tree := tr, Msg := mg } (seC_Msg _ _)
            go_upto_region 24 with fail
            clear k3 k4 gF nNP
            generalize World.setCell _ _ _ = W8 at hb hw h8 b8 ⊢
            obtain ⟨cF, hcF⟩ : ∃ cF : Chg, cF = ⟨qs, (ti : Int), (re : Int), oo, tr, mg⟩ := ⟨_, rfl⟩
            generalize hrF : ({ r0 with OA := B1, on := rs.length, oc := d1, Tree := tr, Msg := mg } : CgW) = rF at hb ⊢
            have hpa : rF.PA = A1 ∧ rF.pn = qs.length ∧ rF.pc = c1 := by rw [← hrF, R0.out]; exact ⟨rfl, rfl, rfl⟩
            have hoa : rF.OA = B1 ∧ rF.on = rs.length ∧ rF.oc = d1 := by rw [← hrF]; exact ⟨rfl, rfl, rfl⟩
            have hin : ∀ w'', Rws w w'' A1 c1 qs B1 d1 rs oo → CgIn w'' rF rs cF := fun w'' hw => by
              rw [← hrF, R0.out, hcF]
              have h1 := HPL.out
              have h2 := HOL.out
              have h3 := C8.out
              exact ⟨rfl, rfl, rfl, rfl, rfl, Sl.own hw.hps, rfl, Sl.own hw.hrs, hw.hos.ops, by simp only; omega, by omega, by simp only; omega⟩
            have HIN := Lib.hid hin
            have HPA := Lib.hid hpa
            have HOA := Lib.hid hoa
            have HCF := Lib.hid hcF
            rw [← hcF] at HR
            clear hcF hrF hpa hoa hin
            have k5 := Cod.bxd_rd hb.bx
            have k8 := Cod.bxd_rd b8
            clear b8
            have hbad : rdCh l = none → ∀ w'' (r2 : CgW), RM codC B w w'' R N5 P vk sk zCgW r2 → RChTo w l (.returned (.tuple #[.agg (codC.A zCgW), .bool false])) w'' := fun h w'' r2 hb => by
              unfold RChTo
              rw [h]
              exact ⟨zCgW, [], rfl, hb.fr, fun _ => rfl, fun c hc => by cases hc⟩
            have HBAD := Lib.hid hbad
            clear hbad
            by_cases hdn : s8 = ([], false)
            · have D := Lib.hid (show decide (s8 = ([], false)) = true by simp [hdn])
              have D' := Lib.hid hdn
              clear hdn
              by_cases hrt : rightCh cF = true
              · have HL := Lib.hid (show rdCh l = some cF by rw [HR.out]; exact if_pos ⟨D'.out, hrt⟩)
                have HG := Lib.hid hrt
                clear hrt
                go_upto_region 26 with (first
                  | (go_at_call 75; refine (r2done_z _ _ _ h8).mono ?_; rintro e wz ⟨rfl, hf⟩; rw [D.out]; replace hb := hb.new hf; replace hw := hw.new hf; have k5 := Cod.bxd_rd hb.bx; clear hf)
                  | (go_at_call 24; refine (r4change_any _ rF rs cF (HIN.out _ hw)).mono ?_; rintro e wy ⟨rfl, hf⟩; rw [HG.out]; replace hb := hb.new hf; replace hw := hw.new hf; have k5 := Cod.bxd_rd hb.bx; clear hf))
                have hrs := okC.stR_box hb.rs rF
                simp only [Cod.v] at hrs
                have hbz := hb.res rF
                have hwz := hw.var hb.rs (Cod.put_fr hb.rs rF).1
                have k5 := Cod.bxd_rd hb.bx
                clear hb hw
                go_wp2_with fail
                refine bodyPost_ret (ret_row_tmp okC rfl _ _ R rF (by rfl) hbz.rs) rfl ?_
                have hpa := HPA.out
                have hoa := HOA.out
                unfold RChTo
                rw [HL.out]
                refine ⟨rF, rs, rfl, hbz.fr, (fun h => by cases h), fun c hc => ?_⟩
                injection hc with hc
                subst hc
                refine ⟨HIN.out _ hwz, ?_, hoa.2.1, ?_⟩
                · rw [hpa.2.1, HCF.out]
                · rw [hpa.1, hpa.2.2, hoa.1, hoa.2.2, HCF.out]
                  exact hwz
              · have hrt' : rightCh cF = false := by simpa using hrt
                have HL := Lib.hid (show rdCh l = none by rw [HR.out]; exact if_neg (fun h => hrt h.2))
                have HG := Lib.hid hrt'
                clear hrt hrt'
                go_upto_region 25 with (first
                  | (go_at_call 75; refine (r2done_z _ _ _ h8).mono ?_; rintro e wz ⟨rfl, hf⟩; rw [D.out]; replace hb := hb.new hf; replace hw := hw.new hf; have k5 := Cod.bxd_rd hb.bx; clear hf)
                  | (go_at_call 24; refine (r4change_any _ rF rs cF (HIN.out _ hw)).mono ?_; rintro e wy ⟨rfl, hf⟩; rw [HG.out]; replace hb := hb.new hf; replace hw := hw.new hf; clear hf))
                have hrs := okC.stR_box hb.rs zCgW
                simp only [Cod.v] at hrs
                have g1 := Cod.put_fr hb.rs zCgW
                have o1 := hb.o1; have o2 := hb.o2; have o3 := hb.o3; have o4 := hb.o4
                have hbz := hb.res zCgW
                clear g1 o1 o2 o3 o4 hb hw
                go_wp2_with fail
                refine bodyPost_ret (ret_row_tmp okC rfl _ _ R zCgW (by rfl) hbz.rs) rfl ?_
                exact HBAD.out HL.out _ _ (hbz)
            · have D := Lib.hid (show decide (s8 = ([], false)) = false by simp [hdn])
              have HL := Lib.hid (show rdCh l = none by rw [HR.out]; exact if_neg (fun h => hdn h.1))
              clear hdn
              go_upto_region 25 with (go_at_call 75; refine (r2done_z _ _ _ h8).mono ?_; rintro e wz ⟨rfl, hf⟩; rw [D.out]; replace hb := hb.new hf; clear hf)
              have hrs := okC.stR_box hb.rs zCgW
              simp only [Cod.v] at hrs
              have g1 := Cod.put_fr hb.rs zCgW
              have o1 := hb.o1; have o2 := hb.o2; have o3 := hb.o3; have o4 := hb.o4
              have hbz := hb.res zCgW
              clear g1 o1 o2 o3 o4 hb hw
              go_wp2_with fail
              refine bodyPost_ret (ret_row_tmp okC rfl _ _ R zCgW (by rfl) hbz.rs) rfl ?_
              exact HBAD.out HL.out _ _ (hbz)
          · have i1 : ¬ (k : Int) < (on : Int) := by omega
            clear hor hlt
            go_upto_region 20 with fail
            clear kE
            go_upto_region 21 with (go_at_call 76; refine (r2getid_z B _ hb.size _ _ hb.inn m6 tr _ E7.out).mono ?_; rintro e w1 ⟨v7, rfl, hz, f1⟩; obtain ⟨W6, st1, st2, fa, ta, tb⟩ := two_newA okN w1 tr zInV v7)
            have fr := f1.step0 fa
            replace hb := hb.new fr
            replace hw := hw.new fr
            have h7 := hz.fr fa
            have a7 := bxA_rd ta
            have q7 := Cod.bxd_rd tb
            clear st1 st2 hz f1 fa ta tb fr kV
            generalize w1.heap.size = N7 at a7 q7 ⊢
            go_upto_region 22 with (go_at_call 78; refine (r2gettext_z B _ hb.size _ _ h7 m7 200 200 rfl (by decide) mg _ E8.out).mono ?_; rintro e w1 ⟨v8, rfl, hz, f1⟩)
            have fa : Fr noB w1 (w1.alloc (codN.o v8)) := (Fr.refl noB w1).alloc _
            have b8 := Cod.bxd_new (C := codN) w1 v8
            have fr := f1.step0 fa
            replace hb := hb.new fr
            replace hw := hw.new fr
            replace a7 := rdI_fr a7 (rdI_lt a7) fr (by simp [noB])
            have h8 := hz.fr fa
            clear hz f1 fa fr h7 q7
            generalize w1.alloc (codN.o v8) = W7 at b8 a7 hb hw h8 ⊢
            generalize w1.heap.size = N8 at b8 ⊢
            have nNP : N8 ≠ P := Blk.ne (Cod.bxd_blk b8) (Cod.bxd_blk hb.bx) (by decide)
            have hst := stC_Tree hb.bx tr
            have gF := (Cod.put_fr hb.bx { r0 with OA := B1, on := rs.length, oc := d1, Tree := tr }).1
            replace hw := hw.var hb.bx gF
            replace h8 := h8.box hb.BP gF
            replace b8 := Cod.bxd_fr b8 gF (fun e => nNP e)
            replace hb := hb.put { r0 with OA := B1, on := rs.length, oc := d1, Tree := tr }
            go_upto_region 23 with fail
            clear hst gF a7
            generalize codC.put W7 P _ = W at hb hw h8 b8 ⊢
            have k3 := (cgAt (Cod.bxd_rd hb.bx)).msg
            have k4 := (Cod.bxd_blk hb.bx).frozen 36
            have gF := Cod.set_fr W P 36 (.string (str mg))
            replace hw := hw.var hb.bx gF
            replace h8 := h8.box hb.BP gF
            replace b8 := Cod.bxd_fr b8 gF (fun e => nNP e)
            replace hb := hb.set 36 (.string (str mg)) { r0 with OA := B1, on := rs.length, oc := d1, Tree := tr, Msg := mg } (seC_Msg _ _)
            go_upto_region 24 with fail
            clear k3 k4 gF nNP
            generalize World.setCell _ _ _ = W8 at hb hw h8 b8 ⊢
            obtain ⟨cF, hcF⟩ : ∃ cF : Chg, cF = ⟨qs, (ti : Int), (re : Int), oo, tr, mg⟩ := ⟨_, rfl⟩
            generalize hrF : ({ r0 with OA := B1, on := rs.length, oc := d1, Tree := tr, Msg := mg } : CgW) = rF at hb ⊢
            have hpa : rF.PA = A1 ∧ rF.pn = qs.length ∧ rF.pc = c1 := by rw [← hrF, R0.out]; exact ⟨rfl, rfl, rfl⟩
            have hoa : rF.OA = B1 ∧ rF.on = rs.length ∧ rF.oc = d1 := by rw [← hrF]; exact ⟨rfl, rfl, rfl⟩
            have hin : ∀ w'', Rws w w'' A1 c1 qs B1 d1 rs oo → CgIn w'' rF rs cF := fun w'' hw => by
              rw [← hrF, R0.out, hcF]
              have h1 := HPL.out
              have h2 := HOL.out
              have h3 := C8.out
              exact ⟨rfl, rfl, rfl, rfl, rfl, Sl.own hw.hps, rfl, Sl.own hw.hrs, hw.hos.ops, by simp only; omega, by omega, by simp only; omega⟩
            have HIN := Lib.hid hin
            have HPA := Lib.hid hpa
            have HOA := Lib.hid hoa
            have HCF := Lib.hid hcF
            rw [← hcF] at HR
            clear hcF hrF hpa hoa hin
            have k5 := Cod.bxd_rd hb.bx
            have k8 := Cod.bxd_rd b8
            clear b8
            have hbad : rdCh l = none → ∀ w'' (r2 : CgW), RM codC B w w'' R N5 P vk sk zCgW r2 → RChTo w l (.returned (.tuple #[.agg (codC.A zCgW), .bool false])) w'' := fun h w'' r2 hb => by
              unfold RChTo
              rw [h]
              exact ⟨zCgW, [], rfl, hb.fr, fun _ => rfl, fun c hc => by cases hc⟩
            have HBAD := Lib.hid hbad
            clear hbad
            by_cases hdn : s8 = ([], false)
            · have D := Lib.hid (show decide (s8 = ([], false)) = true by simp [hdn])
              have D' := Lib.hid hdn
              clear hdn
              by_cases hrt : rightCh cF = true
              · have HL := Lib.hid (show rdCh l = some cF by rw [HR.out]; exact if_pos ⟨D'.out, hrt⟩)
                have HG := Lib.hid hrt
                clear hrt
                go_upto_region 26 with (first
                  | (go_at_call 75; refine (r2done_z _ _ _ h8).mono ?_; rintro e wz ⟨rfl, hf⟩; rw [D.out]; replace hb := hb.new hf; replace hw := hw.new hf; have k5 := Cod.bxd_rd hb.bx; clear hf)
                  | (go_at_call 24; refine (r4change_any _ rF rs cF (HIN.out _ hw)).mono ?_; rintro e wy ⟨rfl, hf⟩; rw [HG.out]; replace hb := hb.new hf; replace hw := hw.new hf; have k5 := Cod.bxd_rd hb.bx; clear hf))
                have hrs := okC.stR_box hb.rs rF
                simp only [Cod.v] at hrs
                have hbz := hb.res rF
                have hwz := hw.var hb.rs (Cod.put_fr hb.rs rF).1
                have k5 := Cod.bxd_rd hb.bx
                clear hb hw
                go_wp2_with fail
                refine bodyPost_ret (ret_row_tmp okC rfl _ _ R rF (by rfl) hbz.rs) rfl ?_
                have hpa := HPA.out
                have hoa := HOA.out
                unfold RChTo
                rw [HL.out]
                refine ⟨rF, rs, rfl, hbz.fr, (fun h => by cases h), fun c hc => ?_⟩
                injection hc with hc
                subst hc
                refine ⟨HIN.out _ hwz, ?_, hoa.2.1, ?_⟩
                · rw [hpa.2.1, HCF.out]
                · rw [hpa.1, hpa.2.2, hoa.1, hoa.2.2, HCF.out]
                  exact hwz
              · have hrt' : rightCh cF = false := by simpa using hrt
                have HL := Lib.hid (show rdCh l = none by rw [HR.out]; exact if_neg (fun h => hrt h.2))
                have HG := Lib.hid hrt'
                clear hrt hrt'
                go_upto_region 25 with (first
                  | (go_at_call 75; refine (r2done_z _ _ _ h8).mono ?_; rintro e wz ⟨rfl, hf⟩; rw [D.out]; replace hb := hb.new hf; replace hw := hw.new hf; have k5 := Cod.bxd_rd hb.bx; clear hf)
                  | (go_at_call 24; refine (r4change_any _ rF rs cF (HIN.out _ hw)).mono ?_; rintro e wy ⟨rfl, hf⟩; rw [HG.out]; replace hb := hb.new hf; replace hw := hw.new hf; clear hf))
                have hrs := okC.stR_box hb.rs zCgW
                simp only [Cod.v] at hrs
                have g1 := Cod.put_fr hb.rs zCgW
                have o1 := hb.o1; have o2 := hb.o2; have o3 := hb.o3; have o4 := hb.o4
                have hbz := hb.res zCgW
                clear g1 o1 o2 o3 o4 hb hw
                go_wp2_with fail
                refine bodyPost_ret (ret_row_tmp okC rfl _ _ R zCgW (by rfl) hbz.rs) rfl ?_
                exact HBAD.out HL.out _ _ (hbz)
            · have D := Lib.hid (show decide (s8 = ([], false)) = false by simp [hdn])
              have HL := Lib.hid (show rdCh l = none by rw [HR.out]; exact if_neg (fun h => hdn h.1))
              clear hdn
              go_upto_region 25 with (go_at_call 75; refine (r2done_z _ _ _ h8).mono ?_; rintro e wz ⟨rfl, hf⟩; rw [D.out]; replace hb := hb.new hf; clear hf)
              have hrs := okC.stR_box hb.rs zCgW
              simp only [Cod.v] at hrs
              have g1 := Cod.put_fr hb.rs zCgW
              have o1 := hb.o1; have o2 := hb.o2; have o3 := hb.o3; have o4 := hb.o4
              have hbz := hb.res zCgW
              clear g1 o1 o2 o3 o4 hb hw
              go_wp2_with fail
              refine bodyPost_ret (ret_row_tmp okC rfl _ _ R zCgW (by rfl) hbz.rs) rfl ?_
              exact HBAD.out HL.out _ _ (hbz)
end Go.Proofs.YtejkfekpgbmdiaaGreat
