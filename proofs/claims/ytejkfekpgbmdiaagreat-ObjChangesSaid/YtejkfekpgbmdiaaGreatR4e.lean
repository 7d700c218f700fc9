/- Contracts: the reference's Id, Text, Stamp, num (bytes that are put). Contracts: the reference's Stamp, Put. (ex_ldS_at) Contracts: the reference's put (an item), PutDir. (ex_ldS_at) Contract: the reference's PutDir. Contracts: the reference's PutLabel, PutChange. -/
import Derived.Test.YtejkfekpgbmdiaaGreatR4b
import Derived.Lib.ConvBytes
namespace Go.Proofs.YtejkfekpgbmdiaaGreat
open Go.RowKit
set_option linter.unusedVariables false
set_option linter.unusedSimpArgs false

def NewS (w : World) (l : List UInt8) (e : Ending) (w' : World) : Prop := ∃ A c, e = .returned (.slice A l.length c) ∧ Sl w' A (bv l) ∧ Fr noB w w' ∧ l.length ≤ c
theorem NewBytes.s {w w' : World} {l : List UInt8} {e : Ending} (h : NewBytes w l e w') : NewS w l e w' := by
  obtain ⟨A, c, h1, h2, h3⟩ := h
  exact ⟨A, c, h1, Sl.own h2, h3, own_cap h2⟩
theorem join_z (w : World) (A B : Option Addr) (c d n n' : Nat) (l m r : List UInt8) (hn : l.length = n) (hn' : m.length = n') (hA : Sl w A (bv l)) (hB : Sl w B (bv m)) (hl : l.length + m.length ≤ 140737488355328) (hr : l ++ m = r) :
    Calls Tryz.prog 13 #[.slice A n c, .slice B n' d] w (NewS w r) := by
  subst hn hn' hr
  exact (join_any w A B c d l m hA hB hl).mono fun _ _ h => h.s
theorem gnum_z (w : World) (z : Int) (n : Nat) (hz : (n : Int) = z) (hn : n ≤ 4611686018427387904) (r : List UInt8) (hr : numB n = r) : Calls Tryz.prog 90 #[.int .i64 z] w (NewS w r) := by
  subst hz hr
  exact (gnum_any w n hn).mono fun _ _ h => h.s
theorem r4num_z (w : World) (A : Option Addr) (c k : Nat) (l : List UInt8) (hk : l.length = k) (hA : Sl w A (bv l)) (z : Int) (n : Nat) (hz : (n : Int) = z) (hn : n ≤ 4611686018427387904) (hl : l.length ≤ 100000000000000) (r : List UInt8) (hr : l ++ numB n = r) :
    Calls Tryz.prog 50 #[.slice A k c, .int .i64 z] w (NewS w r) := by
  have h9 := numB_length n hn
  obtain ⟨b, hb⟩ : ∃ b, numB n = b := ⟨_, rfl⟩
  rw [hb] at hr h9
  have HB := Lib.hid hb
  have HR := Lib.hid hr
  clear hb hr
  go_enter Tryz.func50, Tryz.ntmps50
  go_wp2_with (first
    | (go_at_call 90; refine (gnum_z w z n hz hn b HB.out).mono ?_; rintro e w1 ⟨A1, c1, rfl, h1, f1, hc1⟩)
    | (go_at_call 13; refine (join_z _ A A1 c c1 k b.length l b r hk rfl (hA.fr0 f1) h1 (by omega) HR.out).mono ?_; rintro e w2 ⟨A2, c2, rfl, h2, f2, hc2⟩))
  go_ret
  exact ⟨A2, c2, rfl, h2, f1.step0 f2, hc2⟩
theorem fr_bytes (w : World) (t : TypeId) (s : ByteArray) : Fr noB w (Lib.bytesWorld w t s) :=
  ⟨rfl, rfl, rfl, by rw [Lib.bytesWorld_size]; omega, fun k hk _ => Lib.bytesWorld_at_old w t s k hk⟩
theorem sl_bytes (w : World) (l : List UInt8) : Sl (Lib.bytesWorld w 5 (str l)) (some ⟨w.heap.size, 0, none⟩) (bv l) := by
  intro _
  refine ⟨w.heap.size, 0, rfl, by rw [Lib.bytesWorld_size]; omega, fun j v hv => ?_⟩
  have hj : j < l.length := by have := (List.getElem?_eq_some_iff.1 hv).1; rw [bv_length] at this; exact this
  rw [Nat.zero_add, Lib.bytesWorld_cell w 5 (str l) j (by rw [str_size]; exact hj), ← hv, bv_get l j hj]
  have : (str l).data.toList.getD j 0 = l[j] := by
    have e0 : (str l).data.toList = l := by simp [str]
    rw [e0]
    simp [List.getD, hj]
  rw [this]
theorem conv_bytes (w : World) (l : List UInt8) : ∃ c, (convert 9 22 (.string (str l))).run Tryz.prog w = .ok (.slice (some ⟨w.heap.size, 0, none⟩) l.length c) (Lib.bytesWorld w 5 (str l)) := by
  have h := Lib.run_convert_string_bytes (P := Tryz.prog) w 9 22 5 (str l) Tryz.underlying9 Tryz.underlying22 Tryz.underlying5
  rw [str_size] at h
  exact ⟨_, h⟩
set_option maxRecDepth 100000 in
theorem r2text_z (w : World) (l : List UInt8) (hb : l.length ≤ 100000000000000) (r : List UInt8) (hr : txB l = r) : Calls Tryz.prog 68 #[.string (str l)] w (NewS w r) := by
  have h9 := numB_length l.length (by omega)
  obtain ⟨b, hB⟩ : ∃ b, numB l.length = b := ⟨_, rfl⟩
  have hr' : b ++ l = r := by rw [← hB]; exact hr
  rw [hB] at h9
  have HB := Lib.hid hB
  have HR := Lib.hid hr'
  have hz := str_size l
  clear hB hr hr'
  go_enter Tryz.func68, Tryz.ntmps68
  go_wp2_with (first
    | (go_at_call 90; refine (gnum_z w _ l.length (by rfl) (by omega) b HB.out).mono ?_; rintro e w1 ⟨A1, c1, rfl, h1, f1, hc1⟩; obtain ⟨c5, hcv⟩ := conv_bytes w1 l; have fb := fr_bytes w1 5 (str l); have sb := sl_bytes w1 l; have h1' := h1.fr0 fb)
    | (go_at_call 13; refine (join_z _ A1 _ c1 c5 b.length l.length b l r rfl rfl h1' sb (by omega) HR.out).mono ?_; rintro e w2 ⟨A2, c2, rfl, h2, f2, hc2⟩))
  go_ret
  exact ⟨A2, c2, rfl, h2, (f1.step0 fb).step0 f2, hc2⟩
def IdR (W : World) (x : ID) (gk : Nat) (v iv : Value) (wr : World) : Prop :=
  ∃ (k : Nat) (A : Option Addr) (c : Nat), v = .slice A k c ∧ iv = .int .i64 (k : Int) ∧ gk = 32 - k ∧ k ≤ 32 ∧ wr.ownsRow W.heap.size 5 1 (.slice A k c) k (bv (x.1.take k)) ∧ Fr noB W wr
set_option maxRecDepth 100000 in
theorem r2id_z (w : World) (x : ID) (r : List UInt8) (hr : x.1 = r) : Calls Tryz.prog 66 #[encI x] w (NewS w r) := by
  subst hr
  have f0 : Fr noB w (w.alloc (aro x)) := (Fr.refl noB w).alloc _
  have b1 := blk_arr w x
  have hP : w.heap.size < (w.alloc (aro x)).heap.size := by simp
  go_enter Tryz.func66, Tryz.ntmps66
  go_upto_region 1 with fail
  generalize w.alloc (aro x) = W0 at f0 b1 hP ⊢
  generalize hPe : w.heap.size = P at b1 hP ⊢
  have hown := World.ownsRow_lit (base := W0.heap.size) (e := 5) (size := 1) W0 #[] 0 (Nat.le_refl _) (by simp [maxLen]) rfl
  go_wp2_with fail
  go_loopg [3, 4] 32 (fun gk v iv wr => IdR W0 x gk v iv wr)
  case atStart => exact ⟨0, _, _, rfl, rfl, rfl, by omega, hown, (Fr.refl noB W0).alloc _⟩
  case round =>
    obtain ⟨k, A, c, rfl, rfl, rfl, hk, ho, hf⟩ := hrel
    by_cases hlt : k < 32
    · have i0 : (0 : Int) ≤ (k : Int) := by omega
      have i1 : (k : Int) < 32 := by omega
      have hx : k < x.1.length := by rw [x.2]; exact hlt
      have c1 := ((b1.fr hf (by simp [noB])).cell k).trans (bv_at x k hlt)
      have HS := Sl.new wr 5 [.int .u8 ((x.1[k]'hx).toNat : Int)]
      go_wp2_with (at_builtin; refine wpList_app _ etBytes rfl _ _ rfl W0.heap.size _ _ _ rfl (ho.alloc _) _ 1 1 [.int .u8 ((x.1[k]'hx).toNat : Int)] rfl HS rfl (by simp [Value.oneCell']) (by omega) (by have := hf.size; simp; omega) ?_; intro v' w1 h1 h2 h3; have hbv : bv (x.1.take k) ++ [.int .u8 ((x.1[k]'hx).toNat : Int)] = bv (x.1.take (k + 1)) := (by rw [List.take_succ_eq_append_getElem hx, bv_append]; rfl); rw [hbv] at h1; obtain ⟨A', c', rfl, _, _⟩ := own_form h1)
      go_roundg (32 - (k + 1))
      case measure => omega
      case rel => exact ⟨k + 1, A', c', rfl, by simp, rfl, by omega, h1, (hf.alloc _).stepG h2 (fun g hg => (ho.lt g hg).1)⟩
    · have ek : k = 32 := by omega
      subst ek
      have e : x.1.take 32 = x.1 := List.take_of_length_le (by rw [x.2]; omega)
      rw [e] at ho
      have hc := own_cap ho
      go_wp2_with fail
      go_ret
      have h32 := x.2
      exact ⟨A, c, by rw [h32]; rfl, Sl.own ho, f0.step0 hf, by rw [h32]; exact hc⟩
end Go.Proofs.YtejkfekpgbmdiaaGreat
namespace Go.Proofs.YtejkfekpgbmdiaaGreat
open Go.RowKit
set_option linter.unusedVariables false
set_option linter.unusedSimpArgs false

set_option maxRecDepth 100000 in
theorem r3stamp_z (w : World) (s : St) (hs : okSt s) (r : List UInt8) (hr : stB s = r) : Calls Tryz.prog 91 #[.agg (codS.A s)] w (NewS w r) := by
  obtain ⟨s1, s2, s3, s4⟩ := hs
  have f0 : Fr noB w (w.alloc (.cells (codS.A s) 69)) := (Fr.refl noB w).alloc _
  have q := Cod.rd_new (C := codS) w 69 s
  have q0 := Cod.rd_cell q 0 (v := .int .i64 s.T) rfl
  have q1 := Cod.rd_cell q 1 (v := .int .i64 s.R) rfl
  simp only [Nat.zero_add] at q0 q1
  obtain ⟨b1, hb1⟩ : ∃ b, numB s.T.toNat = b := ⟨_, rfl⟩
  obtain ⟨b2, hb2⟩ : ∃ b, numB s.R.toNat = b := ⟨_, rfl⟩
  have l1 := numB_length s.T.toNat (by omega)
  have l2 := numB_length s.R.toNat (by omega)
  rw [hb1] at l1
  rw [hb2] at l2
  have hR : b1 ++ b2 = r := by rw [← hb1, ← hb2]; exact hr
  have HB1 := Lib.hid hb1
  have HB2 := Lib.hid hb2
  have HR := Lib.hid hR
  clear q hb1 hb2 hR hr
  go_enter Tryz.func91, Tryz.ntmps91
  go_upto_region 1 with fail
  generalize w.alloc (.cells (codS.A s) 69) = W0 at f0 q0 q1 ⊢
  generalize w.heap.size = P at q0 q1 ⊢
  have fd := (Fr.refl noB W0).drew
  have keep : ∀ w' w'' : World, Fr noB w' w'' → (w'.cell? ⟨P, 0, none⟩ = some (.int .i64 s.T) ∧ w'.cell? ⟨P, 1, none⟩ = some (.int .i64 s.R)) → (w''.cell? ⟨P, 0, none⟩ = some (.int .i64 s.T) ∧ w''.cell? ⟨P, 1, none⟩ = some (.int .i64 s.R)) := fun w' w'' f h => ⟨cell_fr0 h.1 f, cell_fr0 h.2 f⟩
  refine wp_region_M 7 8 [⟨8, 2, 0⟩, ⟨16, 8, 1⟩, ⟨32, 16, 2⟩, ⟨64, 2, 0⟩, ⟨128, 64, 8⟩, ⟨256, 128, 20⟩, ⟨512, 288, 36⟩, ⟨4, 512, 127⟩] [(true, 0), (true, 1), (true, 3), (true, 4), (false, 2), (false, 5), (false, 6)] (fun w' => w'.cell? ⟨P, 0, none⟩ = some (.int .i64 s.T) ∧ w'.cell? ⟨P, 1, none⟩ = some (.int .i64 s.R)) (by kernel_rfl) rfl (by kernel_rfl) (by kernel_rfl) (by kernel_rfl) ⟨cell_fr0 q0 fd, cell_fr0 q1 fd⟩ (fun hA hF => ?_)
  iterate 4
    refine wpAnyS_take (v := ?_) hA rfl (fun _ _ _ h => h) (Or.inl ⟨by rfl, ?_⟩) hF (fun hA => ?_)
    rotate_left
    · intro wS hSw; (try dsimp only at hSw); obtain ⟨t1, t2⟩ := hSw; first | (apply Eq.trans; apply ex_ld_id; exact rfl; exact rfl; assumption; with_reducible rfl) | (apply Eq.trans; apply ex_ldS_at; exact rfl; exact rfl; assumption; with_reducible rfl) | (go_simp; try with_reducible rfl)
    try simp only [List.getElem_toArray, List.getElem_cons_zero, List.getElem_cons_succ, Act.put, List.setIfInBounds_toArray, List.set_cons_zero, List.set_cons_succ]
  refine wpAnyS_one hA rfl (fun K' hK => ?_)
  go_simp
  go_at_call 90
  refine (gnum_z W0.drew s.T s.T.toNat (by omega) (by omega) b1 HB1.out).mono ?_
  rintro e w1 ⟨A1, c1, rfl, h1, hf1, hc1⟩
  replace hF := keep _ _ hf1 hF
  refine hK.out _ _ hF (fun hA => ?_)
  clear hK K'
  as_aux_lemma =>
  refine wpAnyS_one hA rfl (fun K' hK => ?_)
  go_simp
  go_at_call 90
  refine (gnum_z w1 s.R s.R.toNat (by omega) (by omega) b2 HB2.out).mono ?_
  rintro e w2 ⟨A2, c2, rfl, h2, hf2, hc2⟩
  replace hF := keep _ _ hf2 hF
  refine hK.out _ _ hF (fun hA => ?_)
  clear hK K'
  as_aux_lemma =>
  refine wpAnyS_one hA rfl (fun K' hK => ?_)
  go_simp
  go_at_call 13
  refine (join_z w2 A1 A2 c1 c2 b1.length b2.length b1 b2 r rfl rfl (h1.fr0 hf2) h2 (by omega) HR.out).mono ?_
  rintro e w3 ⟨A3, c3, rfl, h3, hf3, hc3⟩
  replace hF := keep _ _ hf3 hF
  refine hK.out _ _ hF (fun hA => ?_)
  clear hK K'
  as_aux_lemma =>
  refine wpAnyS_end hA rfl ?_
  simp only [List.drop_succ_cons, List.drop_zero]
  clear hF keep
  go_wp2_with fail
  go_ret
  exact ⟨A3, c3, rfl, h3, (((f0.step0 fd).step0 hf1).step0 hf2).step0 hf3, hc3⟩
/-- the loop of Put -/
def RpR (W7 : World) (l0 : List UInt8) (ov : List St) (gk : Nat) (v iv : Value) (wr : World) : Prop :=
  ∃ (k : Nat) (A : Option Addr) (c : Nat) (l : List UInt8), v = .slice A l.length c ∧ iv = .int .i64 (k : Int) ∧ gk = ov.length - k ∧ k ≤ ov.length ∧ l = l0 ++ (ov.take k).flatMap stB ∧ l.length ≤ l0.length + k * 20 ∧ l.length ≤ c ∧ Sl wr A (bv l) ∧ Fr noB W7 wr
set_option maxRecDepth 100000 in
set_option maxHeartbeats 4000000 in
theorem r3put_z (w : World) (r : OpW) (o : Opn) (h : OpIn w r o) (bo : List UInt8) (hbo : opB o = bo) : Calls Tryz.prog 67 #[.agg (codO.A r)] w (NewS w bo) := by
  have f0 : Fr noB w (w.alloc (.cells (codO.A r) 72)) := (Fr.refl noB w).alloc _
  obtain ⟨q1, q2, q3, q4, q5, q6, q7, q8, q9, q10⟩ := opAt (Cod.rd_new w 72 r)
  have hP : w.heap.size < (w.alloc (.cells (codO.A r) 72)).heap.size := by simp
  replace h := h.fr f0
  have HBO := Lib.hid hbo
  clear hbo q2 q3
  go_enter Tryz.func67, Tryz.ntmps67
  go_upto_region 1 with fail
  generalize w.alloc (.cells (codO.A r) 72) = W0 at f0 h q1 q4 q5 q6 q7 q8 q9 q10 hP ⊢
  generalize hPe : w.heap.size = P at q1 q4 q5 q6 q7 q8 q9 q10 hP ⊢
  by_cases hg : goodOp o = true
  · have hg2 := hg
    simp only [goodOp, Bool.and_eq_true] at hg2
    obtain ⟨⟨g1, g2⟩, g3⟩ := hg2
    have ea : o.At = r.At := by rw [h.eq]; rfl
    have en : o.Node = r.Node := by rw [h.eq]; rfl
    have ek : o.Kind = r.Kind := by rw [h.eq]; rfl
    have ep : o.Parent = r.Parent := by rw [h.eq]; rfl
    have em : o.Name = r.Name := by rw [h.eq]; rfl
    have ed : o.Data = r.Data := by rw [h.eq]; rfl
    have o1 := okSt_of g1
    have o2 := okSt_of g2
    have hopB : opB o = numB r.Kind.toNat ++ stB r.At ++ stB r.Node ++ (if r.Kind = 1 then stB r.Parent ++ txB r.Name else r.Data.1 ++ numB o.Over.length ++ o.Over.flatMap stB) := by
      unfold opB
      rw [if_pos hg, ea, en, ek, ep, em, ed]
    have hk12 : r.Kind = 1 ∨ r.Kind = 2 := by
      by_cases h1 : o.Kind = 1
      · exact .inl (by rw [← ek]; exact h1)
      · rw [if_neg h1] at g3
        by_cases h2 : o.Kind = 2
        · exact .inr (by rw [← ek]; exact h2)
        · rw [if_neg h2] at g3; cases g3
    rw [ea] at o1
    rw [en] at o2
    have a1 := stB_len o1
    have a2 := stB_len o2
    have a3 := numB_length r.Kind.toNat (by omega)
    have p1 : ((r.Kind.toNat : Nat) : Int) = r.Kind := by omega
    have p2 : r.Kind.toNat ≤ 4611686018427387904 := by omega
    obtain ⟨bK, hbK⟩ : ∃ b, numB r.Kind.toNat = b := ⟨_, rfl⟩
    obtain ⟨bA, hbA⟩ : ∃ b, stB r.At = b := ⟨_, rfl⟩
    obtain ⟨bN, hbN⟩ : ∃ b, stB r.Node = b := ⟨_, rfl⟩
    rw [hbK, hbA, hbN] at hopB
    rw [hbA] at a1
    rw [hbN] at a2
    rw [hbK] at a3
    obtain ⟨b9, hb9⟩ : ∃ b, bA ++ bN = b := ⟨_, rfl⟩
    obtain ⟨b10, hb10⟩ : ∃ b, bK ++ b9 = b := ⟨_, rfl⟩
    have a9 : b9.length ≤ 40 := by rw [← hb9, List.length_append]; omega
    have a10 : b10.length ≤ 50 := by rw [← hb10, List.length_append]; omega
    have hopB2 : opB o = b10 ++ (if r.Kind = 1 then stB r.Parent ++ txB r.Name else r.Data.1 ++ numB o.Over.length ++ o.Over.flatMap stB) := by rw [hopB, ← hb10, ← hb9]; simp [List.append_assoc]
    have HG := Lib.hid hg
    have HOB := Lib.hid hopB2
    have PK := Lib.hid p1
    have HBK := Lib.hid hbK
    have HBA := Lib.hid hbA
    have HBN := Lib.hid hbN
    have HB9 := Lib.hid hb9
    have HB10 := Lib.hid hb10
    have HIN := Lib.hid h
    have G3 := Lib.hid g3
    have EK := Lib.hid (And.intro ek (And.intro ep em))
    clear hg g1 g2 g3 hopB hopB2 p1 ea en ek ep em ed hbK hbA hbN hb9 hb10
    go_upto_region 3 with (go_at_call 61; refine (r3good_any _ r o HIN.out).mono ?_; rintro e w1 ⟨rfl, f1⟩; rw [HG.out])
    obtain ⟨L1, L2, L3, L4, L5, L6⟩ := f1.same
    replace q1 := (L1 P 0 hP).trans q1
    replace q4 := (L2 P 1 hP).trans q4
    replace q5 := (L2 P 3 hP).trans q5
    replace q6 := (L2 P 5 hP).trans q6
    replace q7 := (L1 P 7 hP).trans q7
    replace q8 := (L3 P 8 hP).trans q8
    replace q9 := (L1 P 40 hP).trans q9
    clear L1 L2 L3 L4 L5 L6 q10
    have HIN1 := Lib.hid (HIN.out.fr f1)
    replace hP := Nat.lt_of_lt_of_le hP f1.size
    replace f0 := f0.step0 f1
    clear f1 HIN h
    generalize w1 = W1 at f0 q1 q4 q5 q6 q7 q8 q9 hP HIN1 ⊢
    have fd := (Fr.refl noB W1).drew
    have keep : ∀ w' w'' : World, Fr noB w' w'' → (w'.cell? ⟨P, 0, none⟩ = some (.int .i64 r.Kind) ∧ codS.rd w' P 1 = some r.At ∧ codS.rd w' P 3 = some r.Node) → (w''.cell? ⟨P, 0, none⟩ = some (.int .i64 r.Kind) ∧ codS.rd w'' P 1 = some r.At ∧ codS.rd w'' P 3 = some r.Node) :=
      fun w' w'' f h => ⟨cell_fr0 h.1 f, Cod.rd_fr0 h.2.1 f, Cod.rd_fr0 h.2.2 f⟩
    refine wp_region_M 11 12 [⟨512, 2, 0⟩, ⟨1024, 512, 1⟩, ⟨2048, 1024, 2⟩, ⟨4096, 2, 0⟩, ⟨8192, 4096, 8⟩, ⟨16384, 8192, 20⟩, ⟨32768, 2, 0⟩, ⟨65536, 32768, 64⟩, ⟨131072, 65536, 160⟩, ⟨262144, 147456, 288⟩, ⟨524288, 264192, 516⟩, ⟨8, 524288, 2047⟩] [(true, 0), (true, 1), (true, 3), (true, 4), (true, 6), (true, 7), (false, 2), (false, 5), (false, 8), (false, 9), (false, 10)] (fun w' => w'.cell? ⟨P, 0, none⟩ = some (.int .i64 r.Kind) ∧ codS.rd w' P 1 = some r.At ∧ codS.rd w' P 3 = some r.Node) (by kernel_rfl) rfl (by kernel_rfl) (by kernel_rfl) (by kernel_rfl) ⟨cell_fr0 q1 fd, Cod.rd_fr0 q4 fd, Cod.rd_fr0 q5 fd⟩ (fun hA hF => ?_)
    iterate 6
      refine wpAnyS_take (v := ?_) hA rfl (fun _ _ _ h => h) (Or.inl ⟨by rfl, ?_⟩) hF (fun hA => ?_)
      rotate_left
      · intro wS hSw; (try dsimp only at hSw); obtain ⟨s1, s2, s3⟩ := hSw; first | (apply Eq.trans; apply ex_ld_id; exact rfl; exact rfl; assumption; with_reducible rfl) | (apply Eq.trans; apply ex_ldS_at; exact rfl; exact rfl; assumption; with_reducible rfl) | (go_simp; try with_reducible rfl)
      try simp only [List.getElem_toArray, List.getElem_cons_zero, List.getElem_cons_succ, Act.put, List.setIfInBounds_toArray, List.set_cons_zero, List.set_cons_succ]
    refine wpAnyS_one hA rfl (fun K' hK => ?_)
    go_simp
    go_at_call 90
    refine (gnum_z W1.drew r.Kind r.Kind.toNat PK.out p2 bK HBK.out).mono ?_
    rintro e w3 ⟨A3, c3, rfl, h3, hf3, hc3⟩
    replace hF := keep _ _ hf3 hF
    refine hK.out _ _ hF (fun hA => ?_)
    clear hK K'
    as_aux_lemma =>
    refine wpAnyS_one hA rfl (fun K' hK => ?_)
    go_simp
    go_at_call 91
    refine (r3stamp_z w3 r.At o1 bA HBA.out).mono ?_
    rintro e w4 ⟨A4, c4, rfl, h4, hf4, hc4⟩
    replace hF := keep _ _ hf4 hF
    refine hK.out _ _ hF (fun hA => ?_)
    clear hK K'
    as_aux_lemma =>
    refine wpAnyS_one hA rfl (fun K' hK => ?_)
    go_simp
    go_at_call 91
    refine (r3stamp_z w4 r.Node o2 bN HBN.out).mono ?_
    rintro e w5 ⟨A5, c5, rfl, h5, hf5, hc5⟩
    replace hF := keep _ _ hf5 hF
    refine hK.out _ _ hF (fun hA => ?_)
    clear hK K'
    as_aux_lemma =>
    refine wpAnyS_one hA rfl (fun K' hK => ?_)
    go_simp
    go_at_call 13
    refine (join_z w5 A4 A5 c4 c5 bA.length bN.length bA bN b9 rfl rfl (h4.fr0 hf5) h5 (by omega) HB9.out).mono ?_
    rintro e w6 ⟨A6, c6, rfl, h6, hf6, hc6⟩
    replace hF := keep _ _ hf6 hF
    refine hK.out _ _ hF (fun hA => ?_)
    clear hK K'
    as_aux_lemma =>
    refine wpAnyS_one hA rfl (fun K' hK => ?_)
    go_simp
    go_at_call 13
    refine (join_z w6 A3 A6 c3 c6 bK.length b9.length bK b9 b10 rfl rfl (((h3.fr0 hf4).fr0 hf5).fr0 hf6) h6 (by omega) HB10.out).mono ?_
    rintro e w7 ⟨A7, c7, rfl, h7, hf7, hc7⟩
    replace hF := keep _ _ hf7 hF
    refine hK.out _ _ hF (fun hA => ?_)
    clear hK K'
    as_aux_lemma =>
    refine wpAnyS_end hA rfl ?_
    simp only [List.drop_succ_cons, List.drop_zero]
    clear hF keep
    have hwf : Fr noB W1 w7 := ((((fd.step0 hf3).step0 hf4).step0 hf5).step0 hf6).step0 hf7
    have r1 := cell_fr0 q1 hwf
    have g7 := f0.step0 hwf
    clear h3 h4 h5 h6 hf3 hf4 hf5 hf6 hf7 hc3 hc4 hc5 hc6 HBK HBA HBN HB9 HB10
    by_cases hk : r.Kind = 1
    · have k1 : (r.Kind == 1) = true := by rw [hk]; rfl
      have hop : opB o = b10 ++ (stB r.Parent ++ txB r.Name) := by rw [HOB.out, if_pos hk]
      have g3 := G3.out
      rw [if_pos (by rw [EK.out.1]; exact hk)] at g3
      simp only [moveOk, Bool.and_eq_true, decide_eq_true_eq, Bool.or_eq_true] at g3
      obtain ⟨⟨⟨⟨h4, h5⟩, h6⟩, h7'⟩, h8⟩ := g3
      have hp : okSt r.Parent := by
        rw [← EK.out.2.1]
        rcases h5 with h5 | h5
        · exact okSt_of h5
        · simp only [fixedS, Bool.and_eq_true, Bool.or_eq_true, decide_eq_true_eq] at h5
          exact ⟨by omega, by omega, by omega, by omega⟩
      have hnl : r.Name.length ≤ 60 := by rw [← EK.out.2.2]; exact nameOk_le h6
      have a4 := stB_len hp
      have a5 : (txB r.Name).length ≤ 80 := by have := numB_length r.Name.length (by omega); unfold txB; rw [List.length_append]; omega
      obtain ⟨bP, hbP⟩ : ∃ b, stB r.Parent = b := ⟨_, rfl⟩
      obtain ⟨bT, hbT⟩ : ∃ b, txB r.Name = b := ⟨_, rfl⟩
      rw [hbP] at hop a4
      rw [hbT] at hop a5
      obtain ⟨b11, hb11⟩ : ∃ b, bP ++ bT = b := ⟨_, rfl⟩
      have a11 : b11.length ≤ 100 := by rw [← hb11, List.length_append]; omega
      rw [hb11, HBO.out] at hop
      have HBP := Lib.hid hbP
      have HBT := Lib.hid hbT
      have HB11 := Lib.hid hb11
      have HOP := Lib.hid hop.symm
      clear h4 h5 h6 h7' h8 hop hk hbP hbT hb11
      go_upto_region 5 with fail
      have fd5 := (Fr.refl noB w7).drew
      have keep2 : ∀ w' w'' : World, Fr noB w' w'' → (codS.rd w' P 5 = some r.Parent ∧ w'.cell? ⟨P, 7, none⟩ = some (.string (str r.Name))) → (codS.rd w'' P 5 = some r.Parent ∧ w''.cell? ⟨P, 7, none⟩ = some (.string (str r.Name))) := fun w' w'' f h => ⟨Cod.rd_fr0 h.1 f, cell_fr0 h.2 f⟩
      refine wp_region_M 9 10 [⟨8388608, 8, 0⟩, ⟨16777216, 2, 0⟩, ⟨33554432, 16777216, 2⟩, ⟨67108864, 33554432, 4⟩, ⟨134217728, 2, 0⟩, ⟨268435456, 134217728, 16⟩, ⟨536870912, 268435456, 40⟩, ⟨1073741824, 603979776, 72⟩, ⟨2147483648, 1082130432, 129⟩, ⟨4, 2147483648, 511⟩] [(true, 0), (true, 1), (true, 2), (true, 4), (true, 5), (false, 3), (false, 6), (false, 7), (false, 8)] (fun w' => codS.rd w' P 5 = some r.Parent ∧ w'.cell? ⟨P, 7, none⟩ = some (.string (str r.Name))) (by kernel_rfl) rfl (by kernel_rfl) (by kernel_rfl) (by kernel_rfl) ⟨Cod.rd_fr0 q6 (hwf.step0 fd5), cell_fr0 q7 (hwf.step0 fd5)⟩ (fun hA hF => ?_)
      iterate 5
        refine wpAnyS_take (v := ?_) hA rfl (fun _ _ _ h => h) (Or.inl ⟨by rfl, ?_⟩) hF (fun hA => ?_)
        rotate_left
        · intro wS hSw; (try dsimp only at hSw); obtain ⟨s1, s2⟩ := hSw; first | (apply Eq.trans; apply ex_ld_id; exact rfl; exact rfl; assumption; with_reducible rfl) | (apply Eq.trans; apply ex_ldS_at; exact rfl; exact rfl; assumption; with_reducible rfl) | (go_simp; try with_reducible rfl)
        try simp only [List.getElem_toArray, List.getElem_cons_zero, List.getElem_cons_succ, Act.put, List.setIfInBounds_toArray, List.set_cons_zero, List.set_cons_succ]
      refine wpAnyS_one hA rfl (fun K' hK => ?_)
      go_simp
      go_at_call 91
      refine (r3stamp_z w7.drew r.Parent hp bP HBP.out).mono ?_
      rintro e w8 ⟨A8, c8, rfl, h8, hf8, hc8⟩
      replace hF := keep2 _ _ hf8 hF
      refine hK.out _ _ hF (fun hA => ?_)
      clear hK K'
      as_aux_lemma =>
      refine wpAnyS_one hA rfl (fun K' hK => ?_)
      go_simp
      go_at_call 68
      refine (r2text_z w8 r.Name (by omega) bT HBT.out).mono ?_
      rintro e w9 ⟨A9, c9, rfl, h9, hf9, hc9⟩
      replace hF := keep2 _ _ hf9 hF
      refine hK.out _ _ hF (fun hA => ?_)
      clear hK K'
      as_aux_lemma =>
      refine wpAnyS_one hA rfl (fun K' hK => ?_)
      go_simp
      go_at_call 13
      refine (join_z w9 A8 A9 c8 c9 bP.length bT.length bP bT b11 rfl rfl (h8.fr0 hf9) h9 (by omega) HB11.out).mono ?_
      rintro e w10 ⟨A10, c10, rfl, h10, hf10, hc10⟩
      replace hF := keep2 _ _ hf10 hF
      refine hK.out _ _ hF (fun hA => ?_)
      clear hK K'
      as_aux_lemma =>
      refine wpAnyS_one hA rfl (fun K' hK => ?_)
      go_simp
      go_at_call 13
      refine (join_z w10 A7 A10 c7 c10 b10.length b11.length b10 b11 bo rfl rfl ((((h7.fr0 fd5).fr0 hf8).fr0 hf9).fr0 hf10) h10 (by omega) HOP.out).mono ?_
      rintro e w11 ⟨A11, c11, rfl, h11, hf11, hc11⟩
      replace hF := keep2 _ _ hf11 hF
      refine hK.out _ _ hF (fun hA => ?_)
      clear hK K'
      as_aux_lemma =>
      refine wpAnyS_end hA rfl ?_
      simp only [List.drop_succ_cons, List.drop_zero]
      clear hF keep2
      go_wp2_with fail
      go_ret
      exact ⟨A11, c11, rfl, h11, ((((g7.step0 fd5).step0 hf8).step0 hf9).step0 hf10).step0 hf11, hc11⟩
    · have k1 : (r.Kind == 1) = false := by rw [beq_eq_false_iff_ne]; exact hk
      have hk2 : r.Kind = 2 := hk12.resolve_left hk
      have hop : opB o = b10 ++ (r.Data.1 ++ numB o.Over.length ++ o.Over.flatMap stB) := by rw [HOB.out, if_neg hk]
      have g3 := G3.out
      rw [if_neg (by rw [EK.out.1]; exact hk), if_pos (by rw [EK.out.1]; exact hk2)] at g3
      simp only [editOk, Bool.and_eq_true, decide_eq_true_eq, List.all_eq_true] at g3
      obtain ⟨⟨⟨⟨⟨⟨h4, h5⟩, h6⟩, h7'⟩, h8⟩, h9⟩, h10⟩ := g3
      have hov := HIN1.out.len
      have hsl := HIN1.out.sl
      generalize o.Over = ov at hop h8 h9 hov hsl
      have hall : ∀ s ∈ ov, okSt s := fun s hs => okSt_of (h9 s hs).1
      have hn64 : r.n ≤ 64 := by rw [← hov]; exact h8
      rw [hov] at hop
      have a8 := numB_length r.n (by omega)
      have a7 : r.Data.1.length ≤ 32 := by rw [r.Data.2]; exact Nat.le_refl _
      obtain ⟨bD, hbD⟩ : ∃ b, r.Data.1 = b := ⟨_, rfl⟩
      obtain ⟨bL, hbL⟩ : ∃ b, numB r.n = b := ⟨_, rfl⟩
      rw [hbD] at hop a7
      rw [hbL] at hop a8
      obtain ⟨b11, hb11⟩ : ∃ b, bD ++ bL = b := ⟨_, rfl⟩
      have a11 : b11.length ≤ 41 := by rw [← hb11, List.length_append]; omega
      obtain ⟨b12, hb12⟩ : ∃ b, b10 ++ b11 = b := ⟨_, rfl⟩
      have a12 : b12.length ≤ 91 := by rw [← hb12, List.length_append]; omega
      rw [hb11, ← List.append_assoc, hb12, HBO.out] at hop
      have HBD := Lib.hid hbD
      have HBL := Lib.hid hbL
      have HB11 := Lib.hid hb11
      have HB12 := Lib.hid hb12
      have HOP := Lib.hid hop.symm
      have HOV := Lib.hid hov
      clear h4 h5 h6 h7' h8 h9 h10 hop hk hk2 hk12 hov hbD hbL hb11 hb12
      go_upto_region 6 with fail
      have fd5 := (Fr.refl noB w7).drew
      have keep2 : ∀ w' w'' : World, Fr noB w' w'' → (rdI w' P 8 = some r.Data ∧ w'.cell? ⟨P, 40, none⟩ = some (.slice r.A r.n r.c)) → (rdI w'' P 8 = some r.Data ∧ w''.cell? ⟨P, 40, none⟩ = some (.slice r.A r.n r.c)) := fun w' w'' f h => ⟨rdI_fr h.1 (rdI_lt h.1) f (by simp [noB]), cell_fr0 h.2 f⟩
      refine wp_region_M 10 11 [⟨4294967296, 8, 0⟩, ⟨8589934592, 2, 0⟩, ⟨17179869184, 8589934592, 2⟩, ⟨34359738368, 17179869184, 4⟩, ⟨68719476736, 2, 0⟩, ⟨137438953472, 68719476736, 16⟩, ⟨274877906944, 137438953472, 32⟩, ⟨549755813888, 274877906944, 72⟩, ⟨1099511627776, 584115552256, 136⟩, ⟨2199023255552, 1103806595072, 257⟩, ⟨8, 2199023255552, 1023⟩] [(true, 0), (true, 1), (true, 2), (true, 4), (true, 5), (true, 6), (false, 3), (false, 7), (false, 8), (false, 9)] (fun w' => rdI w' P 8 = some r.Data ∧ w'.cell? ⟨P, 40, none⟩ = some (.slice r.A r.n r.c)) (by kernel_rfl) rfl (by kernel_rfl) (by kernel_rfl) (by kernel_rfl) ⟨rdI_fr q8 (rdI_lt q8) (hwf.step0 fd5) (by simp [noB]), cell_fr0 q9 (hwf.step0 fd5)⟩ (fun hA hF => ?_)
      iterate 6
        refine wpAnyS_take (v := ?_) hA rfl (fun _ _ _ h => h) (Or.inl ⟨by rfl, ?_⟩) hF (fun hA => ?_)
        rotate_left
        · intro wS hSw; (try dsimp only at hSw); obtain ⟨s1, s2⟩ := hSw; first | (apply Eq.trans; apply ex_ld_id; exact rfl; exact rfl; assumption; with_reducible rfl) | (apply Eq.trans; apply ex_ldS_at; exact rfl; exact rfl; assumption; with_reducible rfl) | (go_simp; try with_reducible rfl)
        try simp only [List.getElem_toArray, List.getElem_cons_zero, List.getElem_cons_succ, Act.put, List.setIfInBounds_toArray, List.set_cons_zero, List.set_cons_succ]
      refine wpAnyS_one hA rfl (fun K' hK => ?_)
      go_simp
      go_at_call 66
      refine (r2id_z w7.drew r.Data bD HBD.out).mono ?_
      rintro e w8 ⟨A8, c8, rfl, h8, hf8, hc8⟩
      replace hF := keep2 _ _ hf8 hF
      refine hK.out _ _ hF (fun hA => ?_)
      clear hK K'
      as_aux_lemma =>
      refine wpAnyS_one hA rfl (fun K' hK => ?_)
      go_simp
      go_at_call 90
      refine (gnum_z w8 (r.n : Int) r.n rfl (by omega) bL HBL.out).mono ?_
      rintro e w9 ⟨A9, c9, rfl, h9, hf9, hc9⟩
      replace hF := keep2 _ _ hf9 hF
      refine hK.out _ _ hF (fun hA => ?_)
      clear hK K'
      as_aux_lemma =>
      refine wpAnyS_one hA rfl (fun K' hK => ?_)
      go_simp
      go_at_call 13
      refine (join_z w9 A8 A9 c8 c9 bD.length bL.length bD bL b11 rfl rfl (h8.fr0 hf9) h9 (by omega) HB11.out).mono ?_
      rintro e w10 ⟨A10, c10, rfl, h10, hf10, hc10⟩
      replace hF := keep2 _ _ hf10 hF
      refine hK.out _ _ hF (fun hA => ?_)
      clear hK K'
      as_aux_lemma =>
      refine wpAnyS_one hA rfl (fun K' hK => ?_)
      go_simp
      go_at_call 13
      refine (join_z w10 A7 A10 c7 c10 b10.length b11.length b10 b11 b12 rfl rfl ((((h7.fr0 fd5).fr0 hf8).fr0 hf9).fr0 hf10) h10 (by omega) HB12.out).mono ?_
      rintro e w11 ⟨A11, c11, rfl, h11, hf11, hc11⟩
      replace hF := keep2 _ _ hf11 hF
      refine hK.out _ _ hF (fun hA => ?_)
      clear hK K'
      as_aux_lemma =>
      refine wpAnyS_end hA rfl ?_
      simp only [List.drop_succ_cons, List.drop_zero]
      have hcell := hF.2
      clear hF keep2
      have hFr : Fr noB W1 w11 := ((((hwf.step0 fd5).step0 hf8).step0 hf9).step0 hf10).step0 hf11
      have g11 := f0.step0 hFr
      replace hsl := hsl.fr0 hFr
      have hP7 : P < w11.heap.size := Nat.lt_of_lt_of_le hP hFr.size
      rw [← HOV.out] at hcell hn64
      clear h7 h8 h9 h10 hf8 hf9 hf10 hf11 HB11 HB12 HBD HBL
      generalize r.A = RA at hsl hcell ⊢
      go_wp2_with fail
      go_loopg [3, 4] ov.length (fun gk v iv wr => RpR w11 b12 ov gk v iv wr)
      case atStart => exact ⟨0, A11, c11, b12, by first | rfl | simp, rfl, by omega, by omega, by simp, by omega, hc11, h11, Fr.refl _ _⟩
      case round =>
        obtain ⟨k, A8, c8, l8, rfl, rfl, rfl, hk, hl8, hb8, hc8, h8, hf8⟩ := hrel
        have HL8 := Lib.hid hl8
        clear hl8
        have ec := (hf8.same.cell _ 40 hP7).trans hcell
        by_cases hlt : k < ov.length
        · have i1 : (k : Int) < (ov.length : Int) := by omega
          have i0 : (0 : Int) ≤ (k : Int) := by omega
          obtain ⟨g, off, rfl, hg⟩ := hsl.adC (by omega)
          have e1 : codS.rd wr g (off + k * 2) = some ov[k] := (hsl.fr0 hf8).rd k hlt
          have hx : okSt ov[k] := hall _ (List.getElem_mem hlt)
          have ht : (ov.take (k + 1)).flatMap stB = (ov.take k).flatMap stB ++ stB ov[k] := by rw [List.take_succ_eq_append_getElem hlt, List.flatMap_append]; simp
          generalize ov[k] = x at e1 hx ht
          have ax := stB_len hx
          obtain ⟨bx, hbx⟩ : ∃ b, stB x = b := ⟨_, rfl⟩
          rw [hbx] at ht ax
          obtain ⟨l9, hl9⟩ : ∃ b, l8 ++ bx = b := ⟨_, rfl⟩
          have al9 : l9.length = l8.length + bx.length := by rw [← hl9, List.length_append]
          have HT := Lib.hid ht
          have HBX := Lib.hid hbx
          have HL9 := Lib.hid hl9
          have HAL := Lib.hid al9
          have HLT := Lib.hid hlt
          have HB8 := Lib.hid hb8
          have hb8' : l8.length ≤ 2000 := by omega
          clear ht hlt hbx hl9 al9 hb8
          go_wp2_with (first
            | (go_at_call 91; refine (r3stamp_z _ x hx bx HBX.out).mono ?_; rintro e w12 ⟨A12, c12, rfl, h12, hf12, hc12⟩)
            | (go_at_call 13; refine (join_z _ A8 A12 c8 c12 l8.length bx.length l8 bx l9 rfl rfl (h8.fr0 hf12) h12 (by omega) HL9.out).mono ?_; rintro e w13 ⟨A13, c13, rfl, h13, hf13, hc13⟩))
          have hlt := HLT.out
          have hb8 := HB8.out
          have hal := HAL.out
          go_roundg (ov.length - (k + 1))
          case measure => omega
          case rel =>
            exact ⟨k + 1, A13, c13, l9, rfl, by simp, rfl, by omega, by rw [← HL9.out, HL8.out, HT.out, List.append_assoc], by omega, hc13, h13, (hf8.step0 hf12).step0 hf13⟩
        · have hkn : k = ov.length := by omega
          subst hkn
          have i1 : ¬ (ov.length : Int) < (ov.length : Int) := by omega
          have hfin : l8 = bo := by rw [HL8.out, List.take_length, HOP.out]
          subst hfin
          clear hb8
          go_wp2_with fail
          go_ret
          exact ⟨A8, c8, rfl, h8, g11.step0 hf8, hc8⟩
  · have hg' : goodOp o = false := by simpa using hg
    have hop : opB o = [] := by unfold opB; rw [if_neg hg]
    have hbo : bo = [] := by rw [← HBO.out, hop]
    subst hbo
    have HG := Lib.hid hg'
    clear hg hg' hop
    go_wp2_with (go_at_call 61; refine (r3good_any _ r o h).mono ?_; rintro e w1 ⟨rfl, f1⟩; rw [HG.out])
    go_ret
    exact ⟨some ⟨w1.heap.size, 0, none⟩, 0, rfl, Sl.nil _ _, (f0.step0 f1).step0 ((Fr.refl noB w1).alloc _), by simp⟩
end Go.Proofs.YtejkfekpgbmdiaaGreat
namespace Go.Proofs.YtejkfekpgbmdiaaGreat
open Go.RowKit
set_option linter.unusedVariables false
set_option linter.unusedSimpArgs false

theorem r4num_o (w : World) (A : Option Addr) (c k : Nat) (l : List UInt8) (hk : l.length = k) (hA : Sl w A (bv l)) (z : Int) (n : Nat) (hz : (n : Int) = z) (hn : n ≤ 4611686018427387904) (hl : l.length ≤ 100000000000000) (r : List UInt8) (hr : l ++ numB n = r) :
    Calls Tryz.prog 50 #[.slice A k c, .int .i64 z] w (NewBytes w r) := by
  have h9 := numB_length n hn
  obtain ⟨b, hb⟩ : ∃ b, numB n = b := ⟨_, rfl⟩
  rw [hb] at hr h9
  have HB := Lib.hid hb
  subst hk hr
  clear hb
  go_enter Tryz.func50, Tryz.ntmps50
  go_wp2_with (first
    | (go_at_call 90; refine (gnum_z w z n hz hn b HB.out).mono ?_; rintro e w1 ⟨A1, c1, rfl, h1, f1, hc1⟩)
    | (go_at_call 13; refine (join_any _ A A1 c c1 l b (hA.fr0 f1) h1 (by omega)).mono ?_; rintro e w2 ⟨A2, c2, rfl, h2, f2⟩))
  go_ret
  exact ⟨A2, c2, by first | rfl | simp, own_base h2 f1.size, f1.step0 f2⟩
theorem join_o (w : World) (A B : Option Addr) (c d n n' : Nat) (l m r : List UInt8) (hn : l.length = n) (hn' : m.length = n') (hA : Sl w A (bv l)) (hB : Sl w B (bv m)) (hl : l.length + m.length ≤ 140737488355328) (hr : l ++ m = r) :
    Calls Tryz.prog 13 #[.slice A n c, .slice B n' d] w (NewBytes w r) := by
  subst hn hn' hr
  exact join_any w A B c d l m hA hB hl
theorem hd_bytes (h : Hd) : hdB h = stB h.At ++ h.Data.1 := rfl
/-- bytes put one by one behind others -/
def ApR (w0 W : World) (v0 : Value) (l0 one : List UInt8) (gk : Nat) (v iv : Value) (wr : World) : Prop :=
  ∃ (k : Nat) (A : Option Addr) (c : Nat) (l : List UInt8), v = .slice A l.length c ∧ iv = .int .i64 (k : Int) ∧ gk = one.length - k ∧ k ≤ one.length ∧ l = l0 ++ one.take k ∧ l.length = l0.length + k ∧ wr.ownsRow w0.heap.size 5 1 (.slice A l.length c) l.length (bv l) ∧ Fr (fun b => v0.ownBlock = some b) W wr ∧
    ((Value.slice A l.length c).ownBlock = v0.ownBlock ∨ ∃ b, (Value.slice A l.length c).ownBlock = some b ∧ W.heap.size ≤ b)
theorem Sl.frM {w w' : World} {A : Option Addr} {n c : Nat} {xs : List Value} {v0 : Value} (hs : Sl w A xs) (f : Fr (fun b => v0.ownBlock = some b) w w') (h : ∀ b, v0.ownBlock = some b → (Value.slice A n c).ownBlock ≠ some b) : Sl w' A xs := by
  intro hne
  obtain ⟨g, off, e, hg, hc⟩ := hs hne
  subst e
  exact ⟨g, off, rfl, Nat.lt_of_lt_of_le hg f.size, fun j u hu => (World.cell?_of_block (a := ⟨g, off + j, none⟩) (f.block g hg (fun hM => h g hM rfl))).trans (hc j u hu)⟩
theorem ap_step {W wr w2 : World} {v0 v v' : Value} {o : Obj} (hf : Fr (fun b => v0.ownBlock = some b) W wr) (alt : v.ownBlock = v0.ownBlock ∨ ∃ b, v.ownBlock = some b ∧ W.heap.size ≤ b) (hg : (wr.alloc o).grownBy w2 v.ownBlock)
    (h3 : v'.ownBlock = v.ownBlock ∨ v'.ownBlock = some (wr.alloc o).heap.size) : Fr (fun b => v0.ownBlock = some b) W w2 ∧ (v'.ownBlock = v0.ownBlock ∨ ∃ b, v'.ownBlock = some b ∧ W.heap.size ≤ b) := by
  have hs := hf.size
  constructor
  · refine (hf.alloc o).step (Fr.ofGrown (M := fun b => v.ownBlock = some b) hg (fun g hg => hg)) (fun b hb => ?_)
    rcases alt with e | ⟨b', e, hb'⟩
    · exact .inr (by rw [← e]; exact hb)
    · rw [e] at hb
      injection hb with hb
      exact .inl (by omega)
  · rcases h3 with e | e
    · rw [e]; exact alt
    · exact .inr ⟨_, e, by rw [World.size_alloc]; omega⟩
/-- things put one by one behind others -/
def OtR {α : Type} (f : α → List UInt8) (mx : Nat) (w0 W : World) (l0 : List UInt8) (xs : List α) (gk : Nat) (v iv : Value) (wr : World) : Prop :=
  ∃ (k : Nat) (A : Option Addr) (c : Nat) (l : List UInt8), v = .slice A l.length c ∧ iv = .int .i64 (k : Int) ∧ gk = xs.length - k ∧ k ≤ xs.length ∧ l = l0 ++ (xs.take k).flatMap f ∧ l.length ≤ l0.length + k * mx ∧ wr.ownsRow w0.heap.size 5 1 (.slice A l.length c) l.length (bv l) ∧ Fr noB W wr
theorem flatN_succ {α β : Type} (f : α → List β) (l : List α) (k : Nat) (h : k < l.length) : (l.take (k + 1)).flatMap f = (l.take k).flatMap f ++ f l[k] := by
  rw [List.take_succ_eq_append_getElem h, List.flatMap_append]; simp
set_option maxRecDepth 100000 in
set_option maxHeartbeats 4000000 in
theorem r4put_o (w : World) (r : ItW) (x : It) (h : ItIn w r x) (hr : rightIt x = true) (res : List UInt8) (hres : itB x = res) : Calls Tryz.prog 51 #[.agg (codT.A r)] w (NewBytes w res) := by
  have f0 : Fr noB w (w.alloc (.cells (codT.A r) 77)) := (Fr.refl noB w).alloc _
  obtain ⟨q1, q2, q3, q4, q5, q6⟩ := itAt (Cod.rd_new w 77 r)
  have hP : w.heap.size < (w.alloc (.cells (codT.A r) 77)).heap.size := by simp
  replace h := h.fr f0
  obtain ⟨he, hlen, hs, hbd, hnm⟩ := h
  have hr2 := hr
  simp only [rightIt, Bool.and_eq_true, decide_eq_true_eq, List.all_eq_true] at hr2
  obtain ⟨⟨⟨⟨⟨⟨h1, h2⟩, h3⟩, h4⟩, h5⟩, h6⟩, h7⟩ := hr2
  have en : x.Node = r.Node := by rw [he]; rfl
  have ea : x.At = r.At := by rw [he]; rfl
  have em : x.Name = r.Name := by rw [he]; rfl
  have es : x.Sub = r.Sub := by rw [he]; rfl
  have o1 := okSt_of h1
  have o2 := okSt_of h2
  have n60 := nameOk_le h4
  have hall : ∀ q ∈ x.Heads, okSt q.At := fun q hq => okSt_of (h6 q hq).1.1
  have hi : itB x = stB r.Node ++ stB r.At ++ txB r.Name ++ r.Sub.1 ++ numB r.n ++ x.Heads.flatMap hdB := by unfold itB; rw [en, ea, em, es, hlen]
  rw [en] at o1
  rw [ea] at o2
  rw [em] at n60
  rw [hlen] at h5
  generalize x.Heads = hd at hs hbd hall hi hlen
  have a1 := stB_len o1
  have a2 := stB_len o2
  have a3 : (txB r.Name).length ≤ 80 := by have := numB_length r.Name.length (by omega); unfold txB; rw [List.length_append]; omega
  have a4 : r.Sub.1.length ≤ 32 := by rw [r.Sub.2]; exact Nat.le_refl _
  have a5 := numB_length r.n (by omega)
  obtain ⟨bN, hbN⟩ : ∃ b, stB r.Node = b := ⟨_, rfl⟩
  obtain ⟨bA, hbA⟩ : ∃ b, stB r.At = b := ⟨_, rfl⟩
  obtain ⟨bT, hbT⟩ : ∃ b, txB r.Name = b := ⟨_, rfl⟩
  obtain ⟨bS, hbS⟩ : ∃ b, r.Sub.1 = b := ⟨_, rfl⟩
  rw [hbN, hbA, hbT, hbS] at hi
  rw [hbN] at a1
  rw [hbA] at a2
  rw [hbT] at a3
  rw [hbS] at a4
  obtain ⟨b1, hb1⟩ : ∃ b, bN ++ bA = b := ⟨_, rfl⟩
  obtain ⟨b2, hb2⟩ : ∃ b, bT ++ bS = b := ⟨_, rfl⟩
  obtain ⟨b3, hb3⟩ : ∃ b, b1 ++ b2 = b := ⟨_, rfl⟩
  obtain ⟨b4, hb4⟩ : ∃ b, b3 ++ numB r.n = b := ⟨_, rfl⟩
  have a6 : b1.length ≤ 40 := by rw [← hb1, List.length_append]; omega
  have a7 : b2.length ≤ 112 := by rw [← hb2, List.length_append]; omega
  have a8 : b3.length ≤ 152 := by rw [← hb3, List.length_append]; omega
  have a9 : b4.length ≤ 161 := by rw [← hb4, List.length_append]; omega
  have hi2 : res = b4 ++ hd.flatMap hdB := by rw [← hres, hi, ← hb4, ← hb3, ← hb2, ← hb1]; simp [List.append_assoc]
  have HBN := Lib.hid hbN
  have HBA := Lib.hid hbA
  have HBT := Lib.hid hbT
  have HBS := Lib.hid hbS
  have HB1 := Lib.hid hb1
  have HB2 := Lib.hid hb2
  have HB3 := Lib.hid hb3
  have HB4 := Lib.hid hb4
  have HI := Lib.hid hi2
  have HL := Lib.hid hlen
  clear he h1 h2 h3 h4 h6 h7 en ea em es hi hi2 hres hbN hbA hbT hbS hb1 hb2 hb3 hb4 hlen hr
  go_enter Tryz.func51, Tryz.ntmps51
  go_upto_region 1 with fail
  generalize w.alloc (.cells (codT.A r) 77) = W1 at f0 hs q1 q2 q3 q4 q5 q6 hP ⊢
  generalize hPe : w.heap.size = P at q1 q2 q3 q4 q5 q6 hP ⊢
  have fd := (Fr.refl noB W1).drew
  have keep : ∀ w' w'' : World, Fr noB w' w'' → (codS.rd w' P 0 = some r.Node ∧ codS.rd w' P 2 = some r.At) → (codS.rd w'' P 0 = some r.Node ∧ codS.rd w'' P 2 = some r.At) := fun w' w'' f h => ⟨Cod.rd_fr0 h.1 f, Cod.rd_fr0 h.2 f⟩
  refine wp_region_M 7 8 [⟨128, 2, 0⟩, ⟨256, 128, 1⟩, ⟨512, 256, 2⟩, ⟨1024, 2, 0⟩, ⟨2048, 1024, 8⟩, ⟨4096, 2048, 20⟩, ⟨8192, 4608, 36⟩, ⟨8, 8192, 127⟩] [(true, 0), (true, 1), (true, 3), (true, 4), (false, 2), (false, 5), (false, 6)] (fun w' => codS.rd w' P 0 = some r.Node ∧ codS.rd w' P 2 = some r.At) (by kernel_rfl) rfl (by kernel_rfl) (by kernel_rfl) (by kernel_rfl) ⟨Cod.rd_fr0 q1 fd, Cod.rd_fr0 q2 fd⟩ (fun hA hF => ?_)
  iterate 4
    refine wpAnyS_take (v := ?_) hA rfl (fun _ _ _ h => h) (Or.inl ⟨by rfl, ?_⟩) hF (fun hA => ?_)
    rotate_left
    · intro wS hSw; (try dsimp only at hSw); obtain ⟨s1, s2⟩ := hSw; first | (apply Eq.trans; apply ex_ld_id; exact rfl; exact rfl; assumption; with_reducible rfl) | (apply Eq.trans; apply ex_ldS_at; exact rfl; exact rfl; assumption; with_reducible rfl) | (go_simp; try with_reducible rfl)
    try simp only [List.getElem_toArray, List.getElem_cons_zero, List.getElem_cons_succ, Act.put, List.setIfInBounds_toArray, List.set_cons_zero, List.set_cons_succ]
  refine wpAnyS_one hA rfl (fun K' hK => ?_)
  go_simp
  go_at_call 91
  refine (r3stamp_z W1.drew r.Node o1 bN HBN.out).mono ?_
  rintro e w3 ⟨A3, c3, rfl, h3, hf3, hc3⟩
  replace hF := keep _ _ hf3 hF
  refine hK.out _ _ hF (fun hA => ?_)
  clear hK K'
  as_aux_lemma =>
  refine wpAnyS_one hA rfl (fun K' hK => ?_)
  go_simp
  go_at_call 91
  refine (r3stamp_z w3 r.At o2 bA HBA.out).mono ?_
  rintro e w4 ⟨A4, c4, rfl, h4, hf4, hc4⟩
  replace hF := keep _ _ hf4 hF
  refine hK.out _ _ hF (fun hA => ?_)
  clear hK K'
  as_aux_lemma =>
  refine wpAnyS_one hA rfl (fun K' hK => ?_)
  go_simp
  go_at_call 13
  refine (join_z w4 A3 A4 c3 c4 bN.length bA.length bN bA b1 rfl rfl (h3.fr0 hf4) h4 (by omega) HB1.out).mono ?_
  rintro e w5 ⟨A5, c5, rfl, h5, hf5, hc5⟩
  replace hF := keep _ _ hf5 hF
  refine hK.out _ _ hF (fun hA => ?_)
  clear hK K'
  as_aux_lemma =>
  refine wpAnyS_end hA rfl ?_
  simp only [List.drop_succ_cons, List.drop_zero]
  clear hF keep
  have hwf : Fr noB W1 w5 := ((fd.step0 hf3).step0 hf4).step0 hf5
  clear h3 h4 hf3 hf4 hf5 fd
  go_upto_region 2 with fail
  have fd := (Fr.refl noB w5).drew
  have keep2 : ∀ w' w'' : World, Fr noB w' w'' → (w'.cell? ⟨P, 4, none⟩ = some (.string (str r.Name)) ∧ rdI w' P 5 = some r.Sub) → (w''.cell? ⟨P, 4, none⟩ = some (.string (str r.Name)) ∧ rdI w'' P 5 = some r.Sub) := fun w' w'' f h => ⟨cell_fr0 h.1 f, rdI_fr h.2 (rdI_lt h.2) f (by simp [noB])⟩
  refine wp_region_M 9 10 [⟨16384, 8, 0⟩, ⟨32768, 2, 0⟩, ⟨65536, 32768, 2⟩, ⟨131072, 65536, 4⟩, ⟨262144, 2, 0⟩, ⟨524288, 262144, 16⟩, ⟨1048576, 524288, 40⟩, ⟨2097152, 1179648, 72⟩, ⟨4194304, 2113536, 129⟩, ⟨8, 4194304, 511⟩] [(true, 0), (true, 1), (true, 2), (true, 4), (true, 5), (false, 3), (false, 6), (false, 7), (false, 8)] (fun w' => w'.cell? ⟨P, 4, none⟩ = some (.string (str r.Name)) ∧ rdI w' P 5 = some r.Sub) (by kernel_rfl) rfl (by kernel_rfl) (by kernel_rfl) (by kernel_rfl) ⟨cell_fr0 q3 (hwf.step0 fd), rdI_fr q4 (rdI_lt q4) (hwf.step0 fd) (by simp [noB])⟩ (fun hA hF => ?_)
  iterate 5
    refine wpAnyS_take (v := ?_) hA rfl (fun _ _ _ h => h) (Or.inl ⟨by rfl, ?_⟩) hF (fun hA => ?_)
    rotate_left
    · intro wS hSw; (try dsimp only at hSw); obtain ⟨s1, s2⟩ := hSw; first | (apply Eq.trans; apply ex_ld_id; exact rfl; exact rfl; assumption; with_reducible rfl) | (apply Eq.trans; apply ex_ldS_at; exact rfl; exact rfl; assumption; with_reducible rfl) | (go_simp; try with_reducible rfl)
    try simp only [List.getElem_toArray, List.getElem_cons_zero, List.getElem_cons_succ, Act.put, List.setIfInBounds_toArray, List.set_cons_zero, List.set_cons_succ]
  refine wpAnyS_one hA rfl (fun K' hK => ?_)
  go_simp
  go_at_call 68
  refine (r2text_z w5.drew r.Name (by omega) bT HBT.out).mono ?_
  rintro e w6 ⟨A6, c6, rfl, h6, hf6, hc6⟩
  replace hF := keep2 _ _ hf6 hF
  refine hK.out _ _ hF (fun hA => ?_)
  clear hK K'
  as_aux_lemma =>
  refine wpAnyS_one hA rfl (fun K' hK => ?_)
  go_simp
  go_at_call 66
  refine (r2id_z w6 r.Sub bS HBS.out).mono ?_
  rintro e w7 ⟨A7, c7, rfl, h7, hf7, hc7⟩
  replace hF := keep2 _ _ hf7 hF
  refine hK.out _ _ hF (fun hA => ?_)
  clear hK K'
  as_aux_lemma =>
  refine wpAnyS_one hA rfl (fun K' hK => ?_)
  go_simp
  go_at_call 13
  refine (join_z w7 A6 A7 c6 c7 bT.length bS.length bT bS b2 rfl rfl (h6.fr0 hf7) h7 (by omega) HB2.out).mono ?_
  rintro e w8 ⟨A8, c8, rfl, h8, hf8, hc8⟩
  replace hF := keep2 _ _ hf8 hF
  refine hK.out _ _ hF (fun hA => ?_)
  clear hK K'
  as_aux_lemma =>
  refine wpAnyS_one hA rfl (fun K' hK => ?_)
  go_simp
  go_at_call 13
  refine (join_z w8 A5 A8 c5 c8 b1.length b2.length b1 b2 b3 rfl rfl ((((h5.fr0 fd).fr0 hf6).fr0 hf7).fr0 hf8) h8 (by omega) HB3.out).mono ?_
  rintro e w9 ⟨A9, c9, rfl, h9, hf9, hc9⟩
  replace hF := keep2 _ _ hf9 hF
  refine hK.out _ _ hF (fun hA => ?_)
  clear hK K'
  as_aux_lemma =>
  refine wpAnyS_end hA rfl ?_
  simp only [List.drop_succ_cons, List.drop_zero]
  clear hF keep2
  replace hwf : Fr noB W1 w9 := ((((hwf.step0 fd).step0 hf6).step0 hf7).step0 hf8).step0 hf9
  have r5 := cell_fr0 q5 hwf
  clear h5 h6 h7 h8 hf6 hf7 hf8 hf9 fd q1 q2 q3 q4 q6 HBN HBA HBT HBS HB1 HB2 HB3
  go_upto_region 4 with (go_at_call 50; refine (r4num_o _ A9 c9 b3.length b3 rfl h9 (r.n : Int) r.n rfl (by omega) (by omega) b4 HB4.out).mono ?_; rintro e w10 ⟨A10, c10, rfl, h10, hf10⟩)
  replace hs := hs.fr0 hwf
  replace f0 := f0.step0 hwf
  have hP9 := Nat.lt_of_lt_of_le hP hwf.size
  rw [← HL.out] at r5
  have h10' := Lib.hid h5
  clear h5 h9 q5 hwf
  generalize r.A = RA at hs r5
  go_wp2_with fail
  go_loopg [3, 4] hd.length (fun gk v iv wr => OtR hdB 52 w9 w9 b4 hd gk v iv wr)
  case atStart => exact ⟨0, A10, c10, b4, by first | rfl | simp, rfl, by omega, by omega, by simp, by omega, h10, hf10⟩
  case round =>
    obtain ⟨k, A11, c11, l11, rfl, rfl, rfl, hk, hl11, hb11, ho11, hf11⟩ := hrel
    have HL11 := Lib.hid hl11
    clear hl11
    have e5 := (hf11.same.cell _ 37 hP9).trans r5
    by_cases hlt : k < hd.length
    · have i1 : (k : Int) < (hd.length : Int) := by omega
      have i0 : (0 : Int) ≤ (k : Int) := by omega
      obtain ⟨g, off, rfl, hg⟩ := hs.adC (by omega)
      have e1 : codH.rd wr g (off + k * 34) = some hd[k] := (hs.fr0 hf11).rd k hlt
      have hok : okSt (hd[k]).At := hall _ (List.getElem_mem hlt)
      have ht := flatN_succ hdB hd k hlt
      rw [hd_bytes] at ht
      have e2 := hdS e1
      have e3 : rdI wr g (off + k * 34 + 2) = some (hd[k]).Data := Cod.rdI_part e1 2 (fun j v hv => by
        show (csH hd[k])[2 + j]? = some v
        rw [Nat.add_comm]
        simpa [csH] using hv)
      generalize hd[k] = q at e2 e3 hok ht
      have a1 := stB_len hok
      have a2 : q.Data.1.length ≤ 32 := by rw [q.Data.2]; exact Nat.le_refl _
      obtain ⟨bH, hbH⟩ : ∃ b, stB q.At = b := ⟨_, rfl⟩
      obtain ⟨bD, hbD⟩ : ∃ b, q.Data.1 = b := ⟨_, rfl⟩
      rw [hbH] at ht a1
      rw [hbD] at ht a2
      obtain ⟨one, hone⟩ : ∃ b, bH ++ bD = b := ⟨_, rfl⟩
      have a3 : one.length ≤ 52 := by rw [← hone, List.length_append]; omega
      rw [hone] at ht
      have HBH := Lib.hid hbH
      have HBD := Lib.hid hbD
      have HONE := Lib.hid hone
      have HT := Lib.hid ht
      have HLT := Lib.hid hlt
      have HB11 := Lib.hid hb11
      have hb11' : l11.length ≤ 60000 := by have := h10'.out; have := HL.out; omega
      clear ht hlt hbH hbD hone hb11 e1
      go_upto_region 7 with fail
      have fd := (Fr.refl noB wr).drew
      have keep3 : ∀ w' w'' : World, Fr noB w' w'' → (w'.cell? ⟨P, 37, none⟩ = some (.slice (some ⟨g, off, none⟩) hd.length r.c) ∧ codS.rd w' g (off + k * 34) = some q.At ∧ rdI w' g (off + k * 34 + 2) = some q.Data) → (w''.cell? ⟨P, 37, none⟩ = some (.slice (some ⟨g, off, none⟩) hd.length r.c) ∧ codS.rd w'' g (off + k * 34) = some q.At ∧ rdI w'' g (off + k * 34 + 2) = some q.Data) := fun w' w'' f h => ⟨cell_fr0 h.1 f, Cod.rd_fr0 h.2.1 f, rdI_fr h.2.2 (rdI_lt h.2.2) f (by simp [noB])⟩
      refine wp_region_M 15 16 [⟨34359738368, 2, 0⟩, ⟨68719476736, 34359738368, 1⟩, ⟨137438953472, 16, 0⟩, ⟨274877906944, 206158430208, 6⟩, ⟨549755813888, 274877906944, 8⟩, ⟨1099511627776, 549755813888, 16⟩, ⟨2199023255552, 1099511627776, 32⟩, ⟨4398046511104, 2, 0⟩, ⟨8796093022208, 4398046511104, 128⟩, ⟨17592186044416, 16, 0⟩, ⟨35184372088832, 26388279066624, 768⟩, ⟨70368744177664, 35184372088832, 1024⟩, ⟨140737488355328, 70368744177664, 2048⟩, ⟨281474976710656, 140737488355328, 4160⟩, ⟨562949953421312, 283673999966208, 8256⟩, ⟨32, 562949953421312, 32767⟩] [(true, 0), (true, 1), (true, 2), (true, 3), (true, 4), (true, 5), (true, 7), (true, 8), (true, 9), (true, 10), (true, 11), (true, 12), (false, 6), (false, 13), (false, 14)] (fun w' => w'.cell? ⟨P, 37, none⟩ = some (.slice (some ⟨g, off, none⟩) hd.length r.c) ∧ codS.rd w' g (off + k * 34) = some q.At ∧ rdI w' g (off + k * 34 + 2) = some q.Data) (by kernel_rfl) rfl (by kernel_rfl) (by kernel_rfl) (by kernel_rfl) ⟨cell_fr0 e5 fd, Cod.rd_fr0 e2 fd, rdI_fr e3 (rdI_lt e3) fd (by simp [noB])⟩ (fun hA hF => ?_)
      iterate 12
        refine wpAnyS_take (v := ?_) hA rfl (fun _ _ _ h => h) (Or.inl ⟨by rfl, ?_⟩) hF (fun hA => ?_)
        rotate_left
        · intro wS hSw; (try dsimp only at hSw); obtain ⟨s1, s2, s3⟩ := hSw; first | (apply Eq.trans; apply ex_ld_id; exact rfl; exact rfl; assumption; with_reducible rfl) | (apply Eq.trans; apply ex_ldS_at; exact rfl; exact rfl; assumption; with_reducible rfl) | (go_simp; try with_reducible rfl)
        try simp only [List.getElem_toArray, List.getElem_cons_zero, List.getElem_cons_succ, Act.put, List.setIfInBounds_toArray, List.set_cons_zero, List.set_cons_succ]
      refine wpAnyS_one hA rfl (fun K' hK => ?_)
      go_simp
      go_at_call 91
      refine (r3stamp_z wr.drew q.At hok bH HBH.out).mono ?_
      rintro e w12 ⟨A12, c12, rfl, h12, hf12, hc12⟩
      replace hF := keep3 _ _ hf12 hF
      refine hK.out _ _ hF (fun hA => ?_)
      clear hK K'
      as_aux_lemma =>
      refine wpAnyS_one hA rfl (fun K' hK => ?_)
      go_simp
      go_at_call 66
      refine (r2id_z w12 q.Data bD HBD.out).mono ?_
      rintro e w13 ⟨A13, c13, rfl, h13, hf13, hc13⟩
      replace hF := keep3 _ _ hf13 hF
      refine hK.out _ _ hF (fun hA => ?_)
      clear hK K'
      as_aux_lemma =>
      refine wpAnyS_one hA rfl (fun K' hK => ?_)
      go_simp
      go_at_call 13
      refine (join_o w13 A12 A13 c12 c13 bH.length bD.length bH bD one rfl rfl (h12.fr0 hf13) h13 (by omega) HONE.out).mono ?_
      rintro e w14 ⟨A14, c14, rfl, h14, hf14⟩
      replace hF := keep3 _ _ hf14 hF
      refine hK.out _ _ hF (fun hA => ?_)
      clear hK K'
      as_aux_lemma =>
      refine wpAnyS_end hA rfl ?_
      simp only [List.drop_succ_cons, List.drop_zero]
      clear hF keep3
      have hf13' := (fd.step0 hf12).step0 hf13
      have hfx : Fr noB wr w14 := hf13'.step0 hf14
      have hf15 := hf11.step0 hfx
      have ho15 := own_new0 ho11 hfx
      have hne : ∀ b, (Value.slice A11 l11.length c11).ownBlock = some b → (Value.slice A14 one.length c14).ownBlock ≠ some b := fun b h1 h2 => by
        have x1 := (ho11.lt b h1).2
        have x2 := (h14.lt b h2).1
        have x3 := hf13'.size
        omega
      have s14 := Sl.own h14
      clear h12 h13 hf12 hf13 hf14 hfx hf13' fd HBH HBD HONE e2 e3 e5 ho11 hf11
      go_wp2_with fail
      go_loopg [3, 6] one.length (fun gk v iv wr => ApR w9 w14 (.slice A11 l11.length c11) l11 one gk v iv wr)
      case atStart => exact ⟨0, A11, c11, l11, by first | rfl | simp, rfl, by omega, by omega, by simp, by omega, ho15, Fr.refl _ _, .inl rfl⟩
      case round =>
        obtain ⟨i, A16, c16, l16, rfl, rfl, rfl, hi, hl16, hb16, ho16, hf16, alt16⟩ := hrel
        have HL16 := Lib.hid hl16
        have HB16 := Lib.hid hb16
        clear hl16 hb16
        by_cases hil : i < one.length
        · have j1 : (i : Int) < (one.length : Int) := by omega
          have j0 : (0 : Int) ≤ (i : Int) := by omega
          have s16 := Sl.frM s14 hf16 hne
          obtain ⟨gg, oo, rfl, _, hcc⟩ := s16.bytes (by omega)
          have cx := hcc i hil
          have hts : one.take (i + 1) = one.take i ++ [one[i]] := List.take_succ_eq_append_getElem hil
          generalize one[i] = bx at cx hts
          have HTS := Lib.hid hts
          have HIL := Lib.hid hil
          have b16 : l16.length ≤ 100000000 := by have := HB16.out; omega
          have HS := Sl.new wr 5 (bv [bx])
          clear hcc hts hil
          go_wp2_with (at_builtin; refine wpList_appB _ etBytes rfl _ _ rfl w9.heap.size _ _ l16 rfl (ho16.alloc _) _ _ _ [bx] rfl HS rfl (by simp only [List.length_cons, List.length_nil]; omega) (by have := hf15.size; have := hf16.size; rw [World.size_alloc]; omega) ?_; intro A17 c17 w17 hc17 hm17 ho17 hg17 hA17; obtain ⟨hf17, alt17⟩ := ap_step (v' := .slice A17 (l16 ++ [bx]).length c17) hf16 alt16 hg17 (by rw [ownBlock_sl' A17]; exact hA17); obtain ⟨l17, hl17⟩ : ∃ z, z = l16 ++ [bx] := ⟨_, rfl⟩; rw [← hl17] at ho17 alt17 ⊢; have HL17 := Lib.hid hl17; clear hl17)
          have hil := HIL.out
          go_roundg (one.length - (i + 1))
          case measure => omega
          case rel => exact ⟨i + 1, A17, c17, l17, rfl, by simp, rfl, by omega, by rw [HL17.out, HL16.out, HTS.out, List.append_assoc], by rw [HL17.out, List.length_append, HB16.out]; simp; omega, ho17, hf17, alt17⟩
        · have hil2 : i = one.length := by omega
          subst hil2
          have j1 : ¬ (one.length : Int) < (one.length : Int) := by omega
          have hFF := hf15.step hf16 (fun b hb => .inl (ho15.lt b hb).1)
          clear hil
          go_wp2_with fail
          have hb16 := HB16.out
          have hb11 := HB11.out
          have hlt := HLT.out
          go_roundg (hd.length - (k + 1))
          case measure => omega
          case rel => exact ⟨k + 1, A16, c16, l16, rfl, by simp, rfl, by omega, by rw [HL16.out, List.take_length, HL11.out, HT.out, List.append_assoc], by rw [Nat.add_mul]; omega, ho16, hFF⟩
    · have hkl : k = hd.length := by omega
      subst hkl
      have i1 : ¬ (hd.length : Int) < (hd.length : Int) := by omega
      have hfin : l11 = res := by rw [HL11.out, List.take_length, HI.out]
      subst hfin
      clear hlt hk hb11
      go_wp2_with fail
      go_ret
      exact ⟨A11, c11, rfl, own_base ho11 f0.size, f0.step0 hf11⟩
end Go.Proofs.YtejkfekpgbmdiaaGreat
namespace Go.Proofs.YtejkfekpgbmdiaaGreat
open Go.RowKit
set_option linter.unusedVariables false
set_option linter.unusedSimpArgs false

theorem itB_len' {x : It} (h : rightIt x = true) : (itB x).length ≤ 60000 := by
  simp only [rightIt, Bool.and_eq_true, decide_eq_true_eq, List.all_eq_true] at h
  obtain ⟨⟨⟨⟨⟨⟨h1, h2⟩, h3⟩, h4⟩, h5⟩, h6⟩, h7⟩ := h
  have a1 := stB_len (okSt_of h1)
  have a2 := stB_len (okSt_of h2)
  have h8 := nameOk_le h4
  have a3 := numB_length x.Name.length (by omega)
  have a4 := numB_length x.Heads.length (by omega)
  have a5 := x.Sub.2
  have a7 : ∀ l : List Hd, (∀ o ∈ l, rightS o.At = true) → (l.flatMap hdB).length ≤ l.length * 52 := by
    intro l
    induction l with
    | nil => simp
    | cons x l ih =>
      intro hh
      have := ih (fun s hs => hh s (by simp [hs]))
      have h0 := hdB_len (hh x (by simp))
      simp only [List.flatMap_cons, List.length_append, List.length_cons]
      omega
  have a8 := a7 x.Heads (fun o ho => (h6 o ho).1.1)
  unfold itB txB
  simp only [List.length_append]
  omega
set_option maxRecDepth 100000 in
set_option maxHeartbeats 4000000 in
theorem r4putdir_z (w : World) (A : Option Addr) (c n : Nat) (rs : List ItW) (xs : List It) (hn : rs.length = n) (hs : Sl w A (codT.row rs)) (hb : rs.length ≤ 140737488355328) (h : ItsIn w rs xs) (hr : rightDr xs = true) (res : List UInt8) (hres : drB xs = res) :
    Calls Tryz.prog 18 #[.slice A n c] w (NewS w res) := by
  subst hn
  have hlx := h.len
  have hr2 := hr
  simp only [rightDr, Bool.and_eq_true, decide_eq_true_eq, List.all_eq_true] at hr2
  obtain ⟨⟨h1, h2⟩, h3⟩ := hr2
  have a1 := numB_length rs.length (by omega)
  obtain ⟨b4, hb4⟩ : ∃ b, [2] ++ numB rs.length = b := ⟨_, rfl⟩
  have a9 : b4.length ≤ 10 := by rw [← hb4, List.length_append]; simp; omega
  have hi2 : res = b4 ++ xs.flatMap itB := by rw [← hres, ← hb4, hlx]; unfold drB; simp
  have HB4 := Lib.hid hb4
  have HI := Lib.hid hi2
  have HX := Lib.hid hlx
  have h1000 : rs.length ≤ 1000 := by omega
  have fn : Fr noB w (w.alloc (.cells #[.int .u8 2] 5)) := (Fr.refl noB w).alloc _
  have ho1 := own_lit1 w 2 2 rfl
  replace hs := hs.fr0 fn
  replace h := h.fr fn
  clear hr hres h1 h3 hb4 hi2 hlx
  go_enter Tryz.func18, Tryz.ntmps18
  obtain ⟨w9, hw9⟩ : ∃ W, W = w.alloc (.cells #[.int .u8 2] 5) := ⟨_, rfl⟩
  rw [← hw9] at fn ho1 hs h
  have HW9 := Lib.hid hw9
  go_upto_region 2 with (rw [← HW9.out]; go_at_call 50; refine (r4num_o w9 (some ⟨w.heap.size, 0, none⟩) 1 1 [2] rfl (Sl.own ho1) (rs.length : Int) rs.length rfl (by omega) (by simp) b4 HB4.out).mono ?_; rintro e w10 ⟨A10, c10, rfl, h10, hf10⟩)
  clear hw9 HW9 ho1
  go_wp2_with fail
  go_loopg [3, 4] rs.length (fun gk v iv wr => OtR itB 60000 w9 w9 b4 xs gk v iv wr)
  case atStart => exact ⟨0, A10, c10, b4, by first | rfl | simp, rfl, by rw [HX.out, Nat.sub_zero], by omega, by simp, by omega, h10, hf10⟩
  case round =>
    obtain ⟨k, A11, c11, l11, rfl, rfl, hgk, hk, hl11, hb11, ho11, hf11⟩ := hrel
    rw [← HX.out] at hgk hk
    subst hgk
    have HL11 := Lib.hid hl11
    clear hl11
    by_cases hlt : k < rs.length
    · have i1 : (k : Int) < (rs.length : Int) := by omega
      have i0 : (0 : Int) ≤ (k : Int) := by omega
      obtain ⟨g, off, rfl, hg⟩ := hs.adC (by omega)
      have hltx : k < xs.length := by rw [← HX.out]; exact hlt
      have e1 : codT.rd wr g (off + k * 38) = some rs[k] := (hs.fr0 hf11).rd k hlt
      have hin := (h.at_ k hlt hltx).fr hf11
      have hri := h2 _ (List.getElem_mem hltx)
      have ht := flatN_succ itB xs k hltx
      generalize rs[k] = q at e1 hin
      generalize xs[k] = x at hin hri ht
      have a3 := itB_len' hri
      obtain ⟨one, hone⟩ : ∃ b, itB x = b := ⟨_, rfl⟩
      rw [hone] at ht a3
      have HONE := Lib.hid hone
      have HT := Lib.hid ht
      have HLT := Lib.hid hlt
      have HB11 := Lib.hid hb11
      have hb11' : l11.length ≤ 61000000 := by omega
      clear ht hlt hltx hone hb11
      go_upto_region 6 with (go_at_call 51; refine (r4put_o _ q x hin hri one HONE.out).mono ?_; rintro e w14 ⟨A14, c14, rfl, h14, hf14⟩)
      have hf15 := hf11.step0 hf14
      have ho15 := own_new0 ho11 hf14
      have hne : ∀ b, (Value.slice A11 l11.length c11).ownBlock = some b → (Value.slice A14 one.length c14).ownBlock ≠ some b := fun b h1 h2 => by
        have x1 := (ho11.lt b h1).2
        have x2 := (h14.lt b h2).1
        omega
      have s14 := Sl.own h14
      clear hf14 e1 ho11 hf11 hin
      go_wp2_with fail
      go_loopg [3, 6] one.length (fun gk v iv wr => ApR w9 w14 (.slice A11 l11.length c11) l11 one gk v iv wr)
      case atStart => exact ⟨0, A11, c11, l11, by first | rfl | simp, rfl, by omega, by omega, by simp, by omega, ho15, Fr.refl _ _, .inl rfl⟩
      case round =>
        obtain ⟨i, A16, c16, l16, rfl, rfl, rfl, hi, hl16, hb16, ho16, hf16, alt16⟩ := hrel
        have HL16 := Lib.hid hl16
        have HB16 := Lib.hid hb16
        clear hl16 hb16
        by_cases hil : i < one.length
        · have j1 : (i : Int) < (one.length : Int) := by omega
          have j0 : (0 : Int) ≤ (i : Int) := by omega
          have s16 := Sl.frM s14 hf16 hne
          obtain ⟨gg, oo, rfl, _, hcc⟩ := s16.bytes (by omega)
          have cx := hcc i hil
          have hts : one.take (i + 1) = one.take i ++ [one[i]] := List.take_succ_eq_append_getElem hil
          generalize one[i] = bx at cx hts
          have HTS := Lib.hid hts
          have HIL := Lib.hid hil
          have b16 : l16.length ≤ 100000000 := by have := HB16.out; omega
          have HS := Sl.new wr 5 (bv [bx])
          clear hcc hts hil
          go_wp2_with (at_builtin; refine wpList_appB _ etBytes rfl _ _ rfl w9.heap.size _ _ l16 rfl (ho16.alloc _) _ _ _ [bx] rfl HS rfl (by simp only [List.length_cons, List.length_nil]; omega) (by have := hf15.size; have := hf16.size; rw [World.size_alloc]; omega) ?_; intro A17 c17 w17 hc17 hm17 ho17 hg17 hA17; obtain ⟨hf17, alt17⟩ := ap_step (v' := .slice A17 (l16 ++ [bx]).length c17) hf16 alt16 hg17 (by rw [ownBlock_sl' A17]; exact hA17); obtain ⟨l17, hl17⟩ : ∃ z, z = l16 ++ [bx] := ⟨_, rfl⟩; rw [← hl17] at ho17 alt17 ⊢; have HL17 := Lib.hid hl17; clear hl17)
          have hil := HIL.out
          go_roundg (one.length - (i + 1))
          case measure => omega
          case rel => exact ⟨i + 1, A17, c17, l17, rfl, by simp, rfl, by omega, by rw [HL17.out, HL16.out, HTS.out, List.append_assoc], by rw [HL17.out, List.length_append, HB16.out]; simp; omega, ho17, hf17, alt17⟩
        · have hil2 : i = one.length := by omega
          subst hil2
          have j1 : ¬ (one.length : Int) < (one.length : Int) := by omega
          have hFF := hf15.step hf16 (fun b hb => .inl (ho15.lt b hb).1)
          clear hil
          go_wp2_with fail
          have hb16 := HB16.out
          have hb11 := HB11.out
          have hlt := HLT.out
          go_roundg (rs.length - (k + 1))
          case measure => omega
          case rel => exact ⟨k + 1, A16, c16, l16, rfl, by simp, by rw [HX.out], by rw [← HX.out]; omega, by rw [HL16.out, List.take_length, HL11.out, HT.out, List.append_assoc], by rw [Nat.add_mul]; omega, ho16, hFF⟩
    · have hkl : k = rs.length := by omega
      subst hkl
      have i1 : ¬ (rs.length : Int) < (rs.length : Int) := by omega
      have hfin : l11 = res := by rw [HL11.out, HX.out, List.take_length, HI.out]
      subst hfin
      have hcc := own_cap ho11
      clear hlt hk hb11
      go_wp2_with fail
      go_ret
      exact ⟨A11, c11, rfl, Sl.own ho11, fn.step0 hf11, hcc⟩
end Go.Proofs.YtejkfekpgbmdiaaGreat
namespace Go.Proofs.YtejkfekpgbmdiaaGreat
open Go.RowKit
set_option linter.unusedVariables false
set_option linter.unusedSimpArgs false

set_option maxRecDepth 100000 in
set_option maxHeartbeats 4000000 in
theorem r4putlabel_z (w : World) (r : Lbl) (hr : rightLb r = true) (res : List UInt8) (hres : lbB r = res) : Calls Tryz.prog 31 #[.agg (codL.A r)] w (NewS w res) := by
  have f0 : Fr noB w (w.alloc (.cells (codL.A r) 55)) := (Fr.refl noB w).alloc _
  obtain ⟨q1, q2, q3, q4⟩ := lbAt (Cod.rd_new w 55 r)
  have hr2 := hr
  simp only [rightLb, Bool.and_eq_true, decide_eq_true_eq] at hr2
  have n60 := nameOk_le hr2.1.2
  have m200 := hr2.2
  have a1 : r.Target.1.length ≤ 32 := by rw [r.Target.2]; exact Nat.le_refl _
  have a2 : (txB r.Name).length ≤ 80 := by have := numB_length r.Name.length (by omega); unfold txB; rw [List.length_append]; omega
  have a3 : (txB r.Msg).length ≤ 220 := by have := numB_length r.Msg.length (by omega); unfold txB; rw [List.length_append]; omega
  have hl : lbB r = ([4] ++ r.Target.1) ++ (txB r.Name ++ txB r.Msg) := by unfold lbB; simp
  obtain ⟨bT, hbT⟩ : ∃ b, r.Target.1 = b := ⟨_, rfl⟩
  obtain ⟨bN, hbN⟩ : ∃ b, txB r.Name = b := ⟨_, rfl⟩
  obtain ⟨bM, hbM⟩ : ∃ b, txB r.Msg = b := ⟨_, rfl⟩
  rw [hbT, hbN, hbM] at hl
  rw [hbT] at a1
  rw [hbN] at a2
  rw [hbM] at a3
  obtain ⟨b1, hb1⟩ : ∃ b, [4] ++ bT = b := ⟨_, rfl⟩
  obtain ⟨b2, hb2⟩ : ∃ b, bN ++ bM = b := ⟨_, rfl⟩
  have a4 : b1.length ≤ 33 := by rw [← hb1, List.length_append]; simp; omega
  have a5 : b2.length ≤ 300 := by rw [← hb2, List.length_append]; omega
  have HBT := Lib.hid hbT
  have HBN := Lib.hid hbN
  have HBM := Lib.hid hbM
  have HB1 := Lib.hid hb1
  have HB2 := Lib.hid hb2
  have HR := Lib.hid (show b1 ++ b2 = res by rw [← hres, hl, hb1, hb2])
  clear hr hr2 hl hres hbT hbN hbM hb1 hb2 q4
  go_enter Tryz.func31, Tryz.ntmps31
  go_upto_region 1 with fail
  generalize w.alloc (.cells (codL.A r) 55) = W0 at f0 q1 q2 q3 ⊢
  generalize w.heap.size = P at q1 q2 q3 ⊢
  have fn : Fr noB W0 (W0.alloc (.cells #[.int .u8 4] 5)) := (Fr.refl noB W0).alloc _
  have ho1 := Sl.own (own_lit1 W0 4 4 rfl)
  have q1' := rdI_fr q1 (rdI_lt q1) fn (by simp [noB])
  go_upto_region 2 with (first
    | (go_at_call 66; refine (r2id_z _ r.Target bT HBT.out).mono ?_; rintro e w2 ⟨A2, c2, rfl, h2, hf2, hc2⟩)
    | (go_at_call 13; refine (join_z w2 (some ⟨W0.heap.size, 0, none⟩) A2 1 c2 1 bT.length [4] bT b1 rfl rfl (ho1.fr0 hf2) h2 (by simp; omega) HB1.out).mono ?_; rintro e w3 ⟨A3, c3, rfl, h3, hf3, hc3⟩))
  have hwf := (fn.step0 hf2).step0 hf3
  have fd := (Fr.refl noB w3).drew
  have keep : ∀ w' w'' : World, Fr noB w' w'' → (w'.cell? ⟨P, 32, none⟩ = some (.string (str r.Name)) ∧ w'.cell? ⟨P, 33, none⟩ = some (.string (str r.Msg))) → (w''.cell? ⟨P, 32, none⟩ = some (.string (str r.Name)) ∧ w''.cell? ⟨P, 33, none⟩ = some (.string (str r.Msg))) := fun w' w'' f h => ⟨cell_fr0 h.1 f, cell_fr0 h.2 f⟩
  refine wp_region_M 9 10 [⟨512, 8, 0⟩, ⟨1024, 2, 0⟩, ⟨2048, 1024, 2⟩, ⟨4096, 2048, 4⟩, ⟨8192, 2, 0⟩, ⟨16384, 8192, 16⟩, ⟨32768, 16384, 40⟩, ⟨65536, 36864, 72⟩, ⟨131072, 66048, 129⟩, ⟨4, 131072, 511⟩] [(true, 0), (true, 1), (true, 2), (true, 4), (true, 5), (false, 3), (false, 6), (false, 7), (false, 8)] (fun w' => w'.cell? ⟨P, 32, none⟩ = some (.string (str r.Name)) ∧ w'.cell? ⟨P, 33, none⟩ = some (.string (str r.Msg))) (by kernel_rfl) rfl (by kernel_rfl) (by kernel_rfl) (by kernel_rfl) ⟨cell_fr0 q2 (hwf.step0 fd), cell_fr0 q3 (hwf.step0 fd)⟩ (fun hA hF => ?_)
  iterate 5
    refine wpAnyS_take (v := ?_) hA rfl (fun _ _ _ h => h) (Or.inl ⟨by rfl, ?_⟩) hF (fun hA => ?_)
    rotate_left
    · intro wS hSw; (try dsimp only at hSw); obtain ⟨s1, s2⟩ := hSw; first | (apply Eq.trans; apply ex_ld_id; exact rfl; exact rfl; assumption; with_reducible rfl) | (apply Eq.trans; apply ex_ldS_at; exact rfl; exact rfl; assumption; with_reducible rfl) | (go_simp; try with_reducible rfl)
    try simp only [List.getElem_toArray, List.getElem_cons_zero, List.getElem_cons_succ, Act.put, List.setIfInBounds_toArray, List.set_cons_zero, List.set_cons_succ]
  refine wpAnyS_one hA rfl (fun K' hK => ?_)
  go_simp
  go_at_call 68
  refine (r2text_z w3.drew r.Name (by omega) bN HBN.out).mono ?_
  rintro e w4 ⟨A4, c4, rfl, h4, hf4, hc4⟩
  replace hF := keep _ _ hf4 hF
  refine hK.out _ _ hF (fun hA => ?_)
  clear hK K'
  as_aux_lemma =>
  refine wpAnyS_one hA rfl (fun K' hK => ?_)
  go_simp
  go_at_call 68
  refine (r2text_z w4 r.Msg (by omega) bM HBM.out).mono ?_
  rintro e w5 ⟨A5, c5, rfl, h5, hf5, hc5⟩
  replace hF := keep _ _ hf5 hF
  refine hK.out _ _ hF (fun hA => ?_)
  clear hK K'
  as_aux_lemma =>
  refine wpAnyS_one hA rfl (fun K' hK => ?_)
  go_simp
  go_at_call 13
  refine (join_z w5 A4 A5 c4 c5 bN.length bM.length bN bM b2 rfl rfl (h4.fr0 hf5) h5 (by omega) HB2.out).mono ?_
  rintro e w6 ⟨A6, c6, rfl, h6, hf6, hc6⟩
  replace hF := keep _ _ hf6 hF
  refine hK.out _ _ hF (fun hA => ?_)
  clear hK K'
  as_aux_lemma =>
  refine wpAnyS_one hA rfl (fun K' hK => ?_)
  go_simp
  go_at_call 13
  refine (join_z w6 A3 A6 c3 c6 b1.length b2.length b1 b2 res rfl rfl ((((h3.fr0 fd).fr0 hf4).fr0 hf5).fr0 hf6) h6 (by omega) HR.out).mono ?_
  rintro e w7 ⟨A7, c7, rfl, h7, hf7, hc7⟩
  replace hF := keep _ _ hf7 hF
  refine hK.out _ _ hF (fun hA => ?_)
  clear hK K'
  as_aux_lemma =>
  refine wpAnyS_end hA rfl ?_
  simp only [List.drop_succ_cons, List.drop_zero]
  clear hF keep
  go_wp2_with fail
  go_ret
  exact ⟨A7, c7, rfl, h7, (((((f0.step0 hwf).step0 fd).step0 hf4).step0 hf5).step0 hf6).step0 hf7, hc7⟩
/-- things joined one by one behind others -/
def GpR {α : Type} (f : α → List UInt8) (mx : Nat) (W : World) (l0 : List UInt8) (xs : List α) (gk : Nat) (v iv : Value) (wr : World) : Prop :=
  ∃ (k : Nat) (A : Option Addr) (c : Nat) (l : List UInt8), v = .slice A l.length c ∧ iv = .int .i64 (k : Int) ∧ gk = xs.length - k ∧ k ≤ xs.length ∧ l = l0 ++ (xs.take k).flatMap f ∧ l.length ≤ l0.length + k * mx ∧ l.length ≤ c ∧ Sl wr A (bv l) ∧ Fr noB W wr
set_option maxRecDepth 100000 in
set_option maxHeartbeats 4000000 in
theorem r4putchange_z (w : World) (r : CgW) (rs : List OpW) (c : Chg) (h : CgIn w r rs c) (hr : rightCh c = true) (res : List UInt8) (hres : chB c = res) : Calls Tryz.prog 26 #[.agg (codC.A r)] w (NewS w res) := by
  have f0 : Fr noB w (w.alloc (.cells (codC.A r) 47)) := (Fr.refl noB w).alloc _
  obtain ⟨q1, q2, q3, q4, q5, q6, q7⟩ := cgAt (Cod.rd_new w 47 r)
  replace h := h.fr f0
  have hr2 := hr
  simp only [rightCh, Bool.and_eq_true, decide_eq_true_eq, List.all_eq_true] at hr2
  obtain ⟨⟨⟨⟨⟨⟨⟨⟨⟨h1, h2⟩, h3⟩, h4⟩, h5⟩, h6⟩, h7⟩, h8⟩, h9⟩, h10⟩ := hr2
  obtain ⟨t1, t2, t3, t4⟩ := okSt_of h4
  simp only at t1 t2 t3 t4
  rw [h.time] at t1 t2
  rw [h.R] at t3 t4
  rw [h.msg] at h5
  have hgood : ∀ o ∈ c.Ops, goodOp o = true := fun o ho => (h9 o ho).1.1
  have hps := h.ps
  have hos := h.os
  have hops := h.ops
  have hc : chB c = ([3] ++ numB c.Parents.length) ++ c.Parents.flatMap (·.1) ++ numB r.Time.toNat ++ numB r.R.toNat ++ numB c.Ops.length ++ c.Ops.flatMap opB ++ (r.Tree.1 ++ txB r.Msg) := by unfold chB; rw [h.time, h.R, h.tree, h.msg]; simp
  have a1 := numB_length c.Parents.length (by omega)
  have a2 := numB_length r.Time.toNat (by omega)
  have a3 := numB_length r.R.toNat (by omega)
  have a4 := numB_length rs.length (by have := hops.len; omega)
  have a5 : r.Tree.1.length ≤ 32 := by rw [r.Tree.2]; exact Nat.le_refl _
  have a6 : (txB r.Msg).length ≤ 220 := by have := numB_length r.Msg.length (by omega); unfold txB; rw [List.length_append]; omega
  have a7 : (c.Parents.flatMap (·.1)).length ≤ 64 := by
    have : ∀ l : List ID, (l.flatMap (·.1)).length = l.length * 32 := by
      intro l
      induction l with
      | nil => rfl
      | cons x l ih => rw [List.flatMap_cons, List.length_append, ih, x.2, List.length_cons]; omega
    rw [this]; omega
  have a8 : (c.Ops.flatMap opB).length ≤ 300000 := by
    have : ∀ l : List Opn, (∀ o ∈ l, goodOp o = true) → (l.flatMap opB).length ≤ l.length * 4000 := by
      intro l
      induction l with
      | nil => simp
      | cons x l ih =>
        intro hh
        have := ih (fun s hs => hh s (by simp [hs]))
        have h0 := opB_len (hh x (by simp))
        simp only [List.flatMap_cons, List.length_append, List.length_cons]
        omega
    have := this c.Ops hgood
    omega
  rw [← hops.len] at hc
  obtain ⟨b1, hb1⟩ : ∃ b, [3] ++ numB c.Parents.length = b := ⟨_, rfl⟩
  obtain ⟨b2, hb2⟩ : ∃ b, b1 ++ c.Parents.flatMap (·.1) = b := ⟨_, rfl⟩
  obtain ⟨b3, hb3⟩ : ∃ b, b2 ++ numB r.Time.toNat = b := ⟨_, rfl⟩
  obtain ⟨b4, hb4⟩ : ∃ b, b3 ++ numB r.R.toNat = b := ⟨_, rfl⟩
  obtain ⟨b5, hb5⟩ : ∃ b, b4 ++ numB rs.length = b := ⟨_, rfl⟩
  obtain ⟨b6, hb6⟩ : ∃ b, b5 ++ c.Ops.flatMap opB = b := ⟨_, rfl⟩
  obtain ⟨bI, hbI⟩ : ∃ b, r.Tree.1 = b := ⟨_, rfl⟩
  obtain ⟨bM, hbM⟩ : ∃ b, txB r.Msg = b := ⟨_, rfl⟩
  obtain ⟨b7, hb7⟩ : ∃ b, bI ++ bM = b := ⟨_, rfl⟩
  have HR := Lib.hid (show b6 ++ b7 = res by rw [← hres, hc, ← hb7, ← hb6, ← hb5, ← hb4, ← hb3, ← hb2, ← hb1, ← hbI, ← hbM])
  rw [hbI] at a5
  rw [hbM] at a6
  have c1 : b1.length ≤ 10 := by rw [← hb1, List.length_append]; simp; omega
  have c2 : b2.length ≤ 80 := by rw [← hb2, List.length_append]; omega
  have c3 : b3.length ≤ 90 := by rw [← hb3, List.length_append]; omega
  have c4 : b4.length ≤ 100 := by rw [← hb4, List.length_append]; omega
  have c5 : b5.length ≤ 110 := by rw [← hb5, List.length_append]; omega
  have c6 : b6.length ≤ 300110 := by rw [← hb6, List.length_append]; omega
  have c7 : b7.length ≤ 300 := by rw [← hb7, List.length_append]; omega
  have HB1 := Lib.hid hb1
  have HB2 := Lib.hid hb2
  have HB3 := Lib.hid hb3
  have HB4 := Lib.hid hb4
  have HB5 := Lib.hid hb5
  have HB6 := Lib.hid hb6
  have HB7 := Lib.hid hb7
  have HBI := Lib.hid hbI
  have HBM := Lib.hid hbM
  have HXL := Lib.hid hops.len
  have np2 : c.Parents.length ≤ 2 := h1
  have no64 : rs.length ≤ 64 := by rw [hops.len]; exact h7
  rw [← h.pl] at q1
  rw [← h.ol] at q4
  clear hr h1 h2 h3 h4 h6 h7 h8 h9 h10 hc hres hb1 hb2 hb3 hb4 hb5 hb6 hb7 hbI hbM a7 a8 q7 h
  go_enter Tryz.func26, Tryz.ntmps26
  go_upto_region 1 with fail
  have hP : w.heap.size < (w.alloc (.cells (codC.A r) 47)).heap.size := by simp
  generalize w.alloc (.cells (codC.A r) 47) = W0 at f0 q1 q2 q3 q4 q5 q6 hps hos hops hP ⊢
  generalize w.heap.size = P at q1 q2 q3 q4 q5 q6 hP ⊢
  have fn : Fr noB W0 (W0.alloc (.cells #[.int .u8 3] 5)) := (Fr.refl noB W0).alloc _
  have ho1 := Sl.own (own_lit1 W0 3 3 rfl)
  have q1' := cell_fr0 q1 fn
  go_upto_region 2 with (go_at_call 50; refine (r4num_z _ (some ⟨W0.heap.size, 0, none⟩) 1 1 [3] rfl ho1 (c.Parents.length : Int) c.Parents.length rfl (by omega) (by simp) b1 HB1.out).mono ?_; rintro e w1 ⟨A1, c1', rfl, hb1, hf1, hcc1⟩)
  have hw1 := fn.step0 hf1
  clear q1' fn hf1 ho1
  generalize r.PA = PA at hps q1
  generalize r.OA = OA at hos q4
  have p1 := cell_fr0 q1 hw1
  go_wp2_with fail
  go_loopg [3, 4] c.Parents.length (fun gk v iv wr => GpR (fun x : ID => x.1) 32 W0 b1 c.Parents gk v iv wr)
  case atStart => exact ⟨0, A1, c1', b1, by first | rfl | simp, rfl, by omega, by omega, by simp, by omega, hcc1, hb1, hw1⟩
  case round =>
    obtain ⟨k, A2, c2', l2, rfl, rfl, rfl, hk, hl2, hb2, hcc2, hs2, hf2⟩ := hrel
    have HL2 := Lib.hid hl2
    clear hl2
    have e1 := cell_fr0 q1 hf2
    by_cases hlt : k < c.Parents.length
    · have i1 : (k : Int) < (c.Parents.length : Int) := by omega
      have i0 : (0 : Int) ≤ (k : Int) := by omega
      obtain ⟨g, off, rfl⟩ := hps.ad (by omega)
      have e2 : rdI wr g (off + k * 32) = some c.Parents[k] := (hps.fr0 hf2).id k hlt
      have ht := flatN_succ (fun x : ID => x.1) c.Parents k hlt
      generalize c.Parents[k] = x at e2 ht
      have ax : x.1.length ≤ 32 := by rw [x.2]; exact Nat.le_refl _
      try simp only at ht
      obtain ⟨bx, hbx⟩ : ∃ b, x.1 = b := ⟨_, rfl⟩
      rw [hbx] at ht ax
      obtain ⟨l3, hl3⟩ : ∃ b, l2 ++ bx = b := ⟨_, rfl⟩
      have al3 : l3.length = l2.length + bx.length := by rw [← hl3, List.length_append]
      have HT := Lib.hid ht
      have HBX := Lib.hid hbx
      have HL3 := Lib.hid hl3
      have HAL := Lib.hid al3
      have HLT := Lib.hid hlt
      have HB8 := Lib.hid hb2
      have hb2' : l2.length ≤ 2000 := by omega
      clear ht hlt hbx hl3 al3 hb2
      go_wp2_with (first
        | (go_at_call 66; refine (r2id_z _ x bx HBX.out).mono ?_; rintro e w3 ⟨A3, c3', rfl, h3, hf3, hc3⟩)
        | (go_at_call 13; refine (join_z _ A2 A3 c2' c3' l2.length bx.length l2 bx l3 rfl rfl (hs2.fr0 hf3) h3 (by omega) HL3.out).mono ?_; rintro e w4 ⟨A4, c4', rfl, h4, hf4, hc4⟩))
      have hlt := HLT.out
      have hb8 := HB8.out
      have hal := HAL.out
      go_roundg (c.Parents.length - (k + 1))
      case measure => omega
      case rel => exact ⟨k + 1, A4, c4', l3, rfl, by simp, rfl, by omega, by rw [← HL3.out, HL2.out, HT.out, List.append_assoc], by omega, hc4, h4, (hf2.step0 hf3).step0 hf4⟩
    · have hkl : k = c.Parents.length := by omega
      subst hkl
      have i1 : ¬ (c.Parents.length : Int) < (c.Parents.length : Int) := by omega
      have hfin : l2 = b2 := by rw [HL2.out, List.take_length, HB2.out]
      subst hfin
      clear hlt hk hb2 hps q1 p1
      go_upto_region 6 with fail
      obtain ⟨W1, eW⟩ : ∃ wl, wl = wr := ⟨_, rfl⟩
      subst eW
      have p2 := cell_fr0 q2 hf2
      have p3 := cell_fr0 q3 hf2
      have p4 := cell_fr0 q4 hf2
      have fd := (Fr.refl noB W1).drew
      have keep : ∀ w' w'' : World, Fr noB w' w'' → (w'.cell? ⟨P, 1, none⟩ = some (.int .i64 r.Time) ∧ w'.cell? ⟨P, 2, none⟩ = some (.int .i64 r.R) ∧ w'.cell? ⟨P, 3, none⟩ = some (.slice OA rs.length r.oc)) → (w''.cell? ⟨P, 1, none⟩ = some (.int .i64 r.Time) ∧ w''.cell? ⟨P, 2, none⟩ = some (.int .i64 r.R) ∧ w''.cell? ⟨P, 3, none⟩ = some (.slice OA rs.length r.oc)) := fun w' w'' f h => ⟨cell_fr0 h.1 f, cell_fr0 h.2.1 f, cell_fr0 h.2.2 f⟩
      refine wp_region_M 11 12 [⟨67108864, 8, 0⟩, ⟨134217728, 2, 0⟩, ⟨268435456, 134217728, 2⟩, ⟨536870912, 335544320, 5⟩, ⟨1073741824, 2, 0⟩, ⟨2147483648, 1073741824, 16⟩, ⟨4294967296, 2684354560, 40⟩, ⟨8589934592, 2, 0⟩, ⟨17179869184, 8589934592, 128⟩, ⟨34359738368, 17179869184, 256⟩, ⟨68719476736, 38654705664, 576⟩, ⟨8, 68719476736, 2047⟩] [(true, 0), (true, 1), (true, 2), (true, 4), (true, 5), (true, 7), (true, 8), (true, 9), (false, 3), (false, 6), (false, 10)] (fun w' => w'.cell? ⟨P, 1, none⟩ = some (.int .i64 r.Time) ∧ w'.cell? ⟨P, 2, none⟩ = some (.int .i64 r.R) ∧ w'.cell? ⟨P, 3, none⟩ = some (.slice OA rs.length r.oc)) (by kernel_rfl) rfl (by kernel_rfl) (by kernel_rfl) (by kernel_rfl) ⟨cell_fr0 p2 fd, cell_fr0 p3 fd, cell_fr0 p4 fd⟩ (fun hA hF => ?_)
      iterate 8
        refine wpAnyS_take (v := ?_) hA rfl (fun _ _ _ h => h) (Or.inl ⟨by rfl, ?_⟩) hF (fun hA => ?_)
        rotate_left
        · intro wS hSw; (try dsimp only at hSw); obtain ⟨s1, s2, s3⟩ := hSw; first | (apply Eq.trans; apply ex_ld_id; exact rfl; exact rfl; assumption; with_reducible rfl) | (apply Eq.trans; apply ex_ldS_at; exact rfl; exact rfl; assumption; with_reducible rfl) | (go_simp; try with_reducible rfl)
        try simp only [List.getElem_toArray, List.getElem_cons_zero, List.getElem_cons_succ, Act.put, List.setIfInBounds_toArray, List.set_cons_zero, List.set_cons_succ]
      refine wpAnyS_one hA rfl (fun K' hK => ?_)
      go_simp
      go_at_call 50
      refine (r4num_z W1.drew A2 c2' l2.length l2 rfl (hs2.fr0 fd) r.Time r.Time.toNat (by omega) (by omega) (by omega) b3 HB3.out).mono ?_
      rintro e w3 ⟨A3, c3, rfl, h3, hf3, hc3⟩
      replace hF := keep _ _ hf3 hF
      refine hK.out _ _ hF (fun hA => ?_)
      clear hK K'
      as_aux_lemma =>
      refine wpAnyS_one hA rfl (fun K' hK => ?_)
      go_simp
      go_at_call 50
      refine (r4num_z w3 A3 c3 b3.length b3 rfl h3 r.R r.R.toNat (by omega) (by omega) (by omega) b4 HB4.out).mono ?_
      rintro e w4 ⟨A4, c4, rfl, h4, hf4, hc4⟩
      replace hF := keep _ _ hf4 hF
      refine hK.out _ _ hF (fun hA => ?_)
      clear hK K'
      as_aux_lemma =>
      refine wpAnyS_one hA rfl (fun K' hK => ?_)
      go_simp
      go_at_call 50
      refine (r4num_z w4 A4 c4 b4.length b4 rfl h4 (rs.length : Int) rs.length rfl (by omega) (by omega) b5 HB5.out).mono ?_
      rintro e w5 ⟨A5, c5, rfl, h5, hf5, hc5⟩
      replace hF := keep _ _ hf5 hF
      refine hK.out _ _ hF (fun hA => ?_)
      clear hK K'
      as_aux_lemma =>
      refine wpAnyS_end hA rfl ?_
      simp only [List.drop_succ_cons, List.drop_zero]
      clear hF keep
      have hw5 : Fr noB W1 w5 := ((fd.step0 hf3).step0 hf4).step0 hf5
      have hW5 := hf2.step0 hw5
      have p4' := cell_fr0 q4 hW5
      clear h3 h4 hf3 hf4 hf5 fd hs2 p2 p3 p4
      go_wp2_with fail
      go_loopg [3, 5] rs.length (fun gk v iv wr => GpR opB 4000 W0 b5 c.Ops gk v iv wr)
      case atStart => exact ⟨0, A5, c5, b5, by first | rfl | simp, rfl, by rw [HXL.out, Nat.sub_zero], by omega, by simp, by omega, hc5, h5, hW5⟩
      case round =>
        obtain ⟨k, A6, c6', l6, rfl, rfl, hgk, hk, hl6, hb6, hcc6, hs6, hf6⟩ := hrel
        rw [← HXL.out] at hgk hk
        subst hgk
        have HL6 := Lib.hid hl6
        clear hl6
        have e1 := cell_fr0 q4 hf6
        by_cases hlt : k < rs.length
        · have i1 : (k : Int) < (rs.length : Int) := by omega
          have i0 : (0 : Int) ≤ (k : Int) := by omega
          obtain ⟨g, off, rfl, _⟩ := hos.adC (by omega)
          have hltx : k < c.Ops.length := by rw [← HXL.out]; exact hlt
          have e2 : codO.rd wr g (off + k * 41) = some rs[k] := (hos.fr0 hf6).rd k hlt
          have hin := (hops.at_ k hlt hltx).fr hf6
          have hgo := hgood _ (List.getElem_mem hltx)
          have ht := flatN_succ opB c.Ops k hltx
          generalize rs[k] = q at e2 hin
          generalize c.Ops[k] = x at hin hgo ht
          have ax := opB_len hgo
          obtain ⟨bx, hbx⟩ : ∃ b, opB x = b := ⟨_, rfl⟩
          rw [hbx] at ht ax
          obtain ⟨l7, hl7⟩ : ∃ b, l6 ++ bx = b := ⟨_, rfl⟩
          have al7 : l7.length = l6.length + bx.length := by rw [← hl7, List.length_append]
          have HT := Lib.hid ht
          have HBX := Lib.hid hbx
          have HL7 := Lib.hid hl7
          have HAL := Lib.hid al7
          have HLT := Lib.hid hlt
          have HB8 := Lib.hid hb6
          have hb6' : l6.length ≤ 300000 := by omega
          clear ht hlt hltx hbx hl7 al7 hb6
          go_wp2_with (first
            | (go_at_call 67; refine (r3put_z _ q x hin bx HBX.out).mono ?_; rintro e w7 ⟨A7, c7', rfl, h7, hf7, hc7⟩)
            | (go_at_call 13; refine (join_z _ A6 A7 c6' c7' l6.length bx.length l6 bx l7 rfl rfl (hs6.fr0 hf7) h7 (by omega) HL7.out).mono ?_; rintro e w8 ⟨A8, c8', rfl, h8, hf8, hc8⟩))
          have hlt := HLT.out
          have hb8 := HB8.out
          have hal := HAL.out
          go_roundg (rs.length - (k + 1))
          case measure => omega
          case rel => exact ⟨k + 1, A8, c8', l7, rfl, by simp, by rw [HXL.out], by rw [← HXL.out]; omega, by rw [← HL7.out, HL6.out, HT.out, List.append_assoc], by omega, hc8, h8, (hf6.step0 hf7).step0 hf8⟩
        · have hkl : k = rs.length := by omega
          subst hkl
          have i1 : ¬ (rs.length : Int) < (rs.length : Int) := by omega
          have hfin : l6 = b6 := by rw [HL6.out, HXL.out, List.take_length, HB6.out]
          subst hfin
          clear hlt hk hb6 hos q4 p4'
          go_upto_region 11 with fail
          have fd := (Fr.refl noB wr).drew
          have keep2 : ∀ w' w'' : World, Fr noB w' w'' → (rdI w' P 4 = some r.Tree ∧ w'.cell? ⟨P, 36, none⟩ = some (.string (str r.Msg))) → (rdI w'' P 4 = some r.Tree ∧ w''.cell? ⟨P, 36, none⟩ = some (.string (str r.Msg))) := fun w' w'' f h => ⟨rdI_fr h.1 (rdI_lt h.1) f (by simp [noB]), cell_fr0 h.2 f⟩
          refine wp_region_M 9 10 [⟨4503599627370496, 8, 0⟩, ⟨9007199254740992, 2, 0⟩, ⟨18014398509481984, 9007199254740992, 2⟩, ⟨36028797018963968, 18014398509481984, 4⟩, ⟨72057594037927936, 2, 0⟩, ⟨144115188075855872, 72057594037927936, 16⟩, ⟨288230376151711744, 144115188075855872, 40⟩, ⟨576460752303423488, 324259173170675712, 72⟩, ⟨1152921504606846976, 580964351930793984, 129⟩, ⟨4, 1152921504606846976, 511⟩] [(true, 0), (true, 1), (true, 2), (true, 4), (true, 5), (false, 3), (false, 6), (false, 7), (false, 8)] (fun w' => rdI w' P 4 = some r.Tree ∧ w'.cell? ⟨P, 36, none⟩ = some (.string (str r.Msg))) (by kernel_rfl) rfl (by kernel_rfl) (by kernel_rfl) (by kernel_rfl) ⟨rdI_fr q5 (rdI_lt q5) (hf6.step0 fd) (by simp [noB]), cell_fr0 q6 (hf6.step0 fd)⟩ (fun hA hF => ?_)
          iterate 5
            refine wpAnyS_take (v := ?_) hA rfl (fun _ _ _ h => h) (Or.inl ⟨by rfl, ?_⟩) hF (fun hA => ?_)
            rotate_left
            · intro wS hSw; (try dsimp only at hSw); obtain ⟨s1, s2⟩ := hSw; first | (apply Eq.trans; apply ex_ld_id; exact rfl; exact rfl; assumption; with_reducible rfl) | (apply Eq.trans; apply ex_ldS_at; exact rfl; exact rfl; assumption; with_reducible rfl) | (go_simp; try with_reducible rfl)
            try simp only [List.getElem_toArray, List.getElem_cons_zero, List.getElem_cons_succ, Act.put, List.setIfInBounds_toArray, List.set_cons_zero, List.set_cons_succ]
          refine wpAnyS_one hA rfl (fun K' hK => ?_)
          go_simp
          go_at_call 66
          refine (r2id_z wr.drew r.Tree bI HBI.out).mono ?_
          rintro e w7 ⟨A7, c7, rfl, h7, hf7, hc7⟩
          replace hF := keep2 _ _ hf7 hF
          refine hK.out _ _ hF (fun hA => ?_)
          clear hK K'
          as_aux_lemma =>
          refine wpAnyS_one hA rfl (fun K' hK => ?_)
          go_simp
          go_at_call 68
          refine (r2text_z w7 r.Msg (by omega) bM HBM.out).mono ?_
          rintro e w8 ⟨A8, c8, rfl, h8, hf8, hc8⟩
          replace hF := keep2 _ _ hf8 hF
          refine hK.out _ _ hF (fun hA => ?_)
          clear hK K'
          as_aux_lemma =>
          refine wpAnyS_one hA rfl (fun K' hK => ?_)
          go_simp
          go_at_call 13
          refine (join_z w8 A7 A8 c7 c8 bI.length bM.length bI bM b7 rfl rfl (h7.fr0 hf8) h8 (by omega) HB7.out).mono ?_
          rintro e w9 ⟨A9, c9, rfl, h9, hf9, hc9⟩
          replace hF := keep2 _ _ hf9 hF
          refine hK.out _ _ hF (fun hA => ?_)
          clear hK K'
          as_aux_lemma =>
          refine wpAnyS_one hA rfl (fun K' hK => ?_)
          go_simp
          go_at_call 13
          refine (join_z w9 A6 A9 c6' c9 l6.length b7.length l6 b7 res rfl rfl ((((hs6.fr0 fd).fr0 hf7).fr0 hf8).fr0 hf9) h9 (by omega) HR.out).mono ?_
          rintro e w10 ⟨A10, c10, rfl, h10, hf10, hc10⟩
          replace hF := keep2 _ _ hf10 hF
          refine hK.out _ _ hF (fun hA => ?_)
          clear hK K'
          as_aux_lemma =>
          refine wpAnyS_end hA rfl ?_
          simp only [List.drop_succ_cons, List.drop_zero]
          clear hF keep2
          go_wp2_with fail
          go_ret
          exact ⟨A10, c10, rfl, h10, (((((f0.step0 hf6).step0 fd).step0 hf7).step0 hf8).step0 hf9).step0 hf10, hc10⟩
end Go.Proofs.YtejkfekpgbmdiaaGreat
