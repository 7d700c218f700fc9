/- The law DagPlays: it returns true. (Rules met in drawn regions: ex_ld_arr, ex_bldR_at.) -/
import Derived.Test.YtchiclnnoealdaaPlayW
namespace Go.Proofs.Ytchiclnnoealdaa
open Go.RowKit Go.Maps Go.Sort Go.Shelf
set_option linter.unusedVariables false
set_option linter.unusedSimpArgs false

def PlB (W : World) (n : Nat) (gk : Nat) (kv : Value) (wr : World) : Prop := ∃ k : Nat, kv = .int .i64 (k : Int) ∧ gk = n - k ∧ k ≤ n ∧ Fr noB W wr
theorem lift_T {X : Prop} {P : Program} {md : Region.Mode} {ops : Array Oper} {Q : Exit → Act → World → Prop} {FF : World → Prop} {n fuel : Nat} {s : Sch} {act : Nat → Nat → Value → Act} {F : Nat → Nat → Value → World → Prop}
    (h1 : (∀ a b v L W, F a b v W → RegT md ops n L s → wpAnyN P md ops Q FF n fuel L (act a b v) W) → X)
    (h2 : ∀ a b v L W, F a b v W → RegT md ops n L s → wpAnyN P md ops Q FF n fuel L (act a b v) W) : X := h1 h2
def PlR (w : World) (D : Nat) (pa pb : Nat) (a b : ID) (nodes : Md) (gk : Nat) (mv kv : Value) (wr : World) : Prop :=
  ∃ (k : Nat) (S : Nat → Prop) (A : Option Addr) (c : Nat) (nv : List (ID × Value)) (m : Md), kv = .int .i64 (k : Int) ∧ gk = nodes.length - k ∧ k ≤ nodes.length ∧ mv = .slice A m.length c ∧ DagL w wr D m.reverse S ∧
    Sl wr A (lnR nv) ∧ NdV wr nv m ∧ Off A S ∧ NvO nv S ∧ m.length ≤ k ∧ S pa ∧ S pb ∧ bxI wr pa = some a ∧ bxI wr pb = some b

set_option maxRecDepth 100000 in
set_option maxHeartbeats 8000000 in
theorem playsL_any (w : World) (A0 : Option Addr) (c0 : Nat) (nv0 : List (ID × Value)) (nodes : Md) (hs : Sl w A0 (lnR nv0)) (hnd : NdV w nv0 nodes) (a b : ID) :
    Calls Try.prog 3 #[.slice A0 nodes.length c0, encI a, encI b] w (lawPost w) := by
  have f0 : Fr noB w ((w.alloc (ido a)).alloc (ido b)) := ((Fr.refl noB w).alloc _).alloc _
  have qa : bxI ((w.alloc (ido a)).alloc (ido b)) w.heap.size = some a := by rw [bxI_old _ _ _ (by simp), bxI_new]
  have qb : bxI ((w.alloc (ido a)).alloc (ido b)) (w.heap.size + 1) = some b := by rw [bxI_new' _ _ _ (by simp)]
  have z0 : ((w.alloc (ido a)).alloc (ido b)).heap.size = w.heap.size + 2 := by simp
  have hRN : ∀ (k : Nat) (hk : k < nodes.length), ∃ g off P c2, A0 = some ⟨g, off, none⟩ ∧ RdN w g (off + k * 33) ((nodes[k]).1, .slice P (nodes[k]).2.length c2) ∧ Sl w P (idc (nodes[k]).2) := fun k hk => by
    have h : RfA w A0 nodes := ⟨nv0, hs, hnd⟩
    obtain ⟨g, off, rfl⟩ := h.ad (by omega)
    obtain ⟨B, c2, h1, h2⟩ := h.at k hk
    exact ⟨g, off, B, c2, rfl, h1, h2⟩
  have HRN := Lib.hid hRN
  clear hRN hs hnd
  go_enter Try.func3, Try.ntmps3
  go_wp2_with fail
  go_at_call 8
  refine (newL_any w _ f0 (betw w.heap.size (w.heap.size + 2)) (fun b hb => by rw [z0]; exact hb.2)).mono ?_
  rintro e w1 ⟨D, rfl, hD1, f1⟩
  have qa1 := bxI_fr qa f1 (by simp [noB])
  have qb1 := bxI_fr qb f1 (by simp [noB])
  clear qa qb f1 f0 z0
  go_wp2_with fail
  go_at_call 9
  refine (alive_any w1).mono ?_
  rintro e w2 ⟨rfl, f2⟩
  have hD2 := hD1.fr0 f2
  have qa2 := bxI_fr qa1 f2 (by simp [noB])
  have qb2 := bxI_fr qb1 f2 (by simp [noB])
  clear qa1 qb1 f2 hD1
  by_cases h14 : 14 < nodes.length
  · have e1 : (14 : Int) < (nodes.length : Int) := by omega
    go_wp2_with fail
    go_ret
    exact ⟨rfl, hD2.fr.below⟩
  · have e1 : ¬ (14 : Int) < (nodes.length : Int) := by omega
    have hSa : betw w.heap.size (w.heap.size + 2) w.heap.size := ⟨by omega, by omega⟩
    have hSb : betw w.heap.size (w.heap.size + 2) (w.heap.size + 1) := ⟨by omega, by omega⟩
    have lw : w.heap.size ≤ w2.heap.size := hD2.fr.size
    generalize hpa : w.heap.size = pa at qa2 qb2 hSa hSb hD2 lw ⊢
    have HPA := Lib.hid hpa
    clear hpa
    have f3 : Fr noB w2 (w2.alloc (.cells #[] 39)) := (Fr.refl noB w2).alloc _
    go_wp2_with fail
    go_loopg [8, 29] nodes.length (fun gk mv kv wr => PlR w D pa (pa + 1) a b nodes gk mv kv wr)
    case atStart => exact ⟨0, _, _, 0, [], [], rfl, rfl, by omega, rfl, hD2.more f3, Sl.nil _ _, .nil, (fun a ha => by injection ha with ha; subst ha; exact .inr ⟨Nat.le_refl _, by simp⟩), (fun p hp => by simp at hp), by simp, .inl hSa, .inl hSb, bxI_fr qa2 f3 (by simp [noB]), bxI_fr qb2 f3 (by simp [noB])⟩
    case round =>
      obtain ⟨k, S, A, c, nv, m, rfl, rfl, hk, rfl, hDk, hsl, hnd, hfA, hfN, hmk, hSa, hSb, qa, qb⟩ := hrel
      obtain ⟨wl, ewl⟩ : ∃ wl, wl = wr := ⟨wr, rfl⟩
      subst ewl
      clear qa2 qb2 hD2 f3
      by_cases hlt : k < nodes.length
      · have i0 : (0 : Int) ≤ (k : Int) := by omega
        have i1 : (k : Int) < (nodes.length : Int) := by omega
        obtain ⟨g, off, P, cP, rfl, hrn, hP⟩ := HRN.out k hlt
        have hld := ldN_at (hrn.fr hDk.fr (by simp [noB]))
        have hPl := hP.fr0 hDk.fr
        generalize (nodes[k]).1 = x at hld hrn
        generalize (nodes[k]).2 = ps at hld hrn hP hPl
        clear hrn
        have fb : Fr noB wl (wl.alloc (lno (x, .slice P ps.length cP))) := (Fr.refl noB wl).alloc _
        have hbn := RdN.new wl (x, .slice P ps.length cP)
        have bx := hbn.id
        have bs := hbn.sl
        simp only [Nat.zero_add] at bx bs
        have hDb := hDk.more fb
        by_cases h100 : 100 < ps.length
        · have e2 : (100 : Int) < (ps.length : Int) := by omega
          go_wp2_with fail
          go_ret
          exact ⟨rfl, (hDk.fr.step0 fb).below⟩
        · have e2 : ¬ (100 : Int) < (ps.length : Int) := by omega
          have hPb := hPl.fr0 fb
          have zb : (wl.alloc (lno (x, .slice P ps.length cP))).heap.size = wl.heap.size + 1 := World.size_alloc ..
          have hSn : wl.heap.size ≤ wl.heap.size ∧ wl.heap.size < (wl.alloc (lno (x, .slice P ps.length cP))).heap.size := ⟨Nat.le_refl _, by omega⟩
          have hslb := hsl.fr0 fb
          have hndb := hnd.fr0 fb
          have qab := bxI_fr qa fb (by simp [noB])
          have qbb := bxI_fr qb fb (by simp [noB])
          go_wp2_with fail
          generalize wl.alloc (lno (x, .slice P ps.length cP)) = Wb at bx bs hDb hPb zb hSn hslb hndb qab qbb ⊢
          generalize hpn : wl.heap.size = pn at bx bs hDb hSn zb ⊢
          generalize hS1 : (fun b => S b ∨ (pn ≤ b ∧ b < Wb.heap.size)) = S1 at hDb
          have hSS : ∀ b, S b → S1 b := fun b hb => by subst hS1; exact .inl hb
          have hSn1 : S1 pn := by subst hS1; exact .inr hSn
          clear hS1 hld hbn fb hDk hsl hnd qa qb hPl
          have nS : ∀ b', S1 b' → ¬ notS w S1 b' := fun b hb h => h.2 hb
          have hokm := hDb.ok
          go_at_call 10
          refine (addL_any hDb (by rw [List.length_reverse]; omega) x P cP _ ps rfl hPb (by omega)).mono ?_
          rintro e v1 ⟨rfl, hE1, hg1⟩
          have bx1 := rdI_fr bx (rdI_lt bx) hg1 (nS _ hSn1)
          have bs1 : v1.cell? ⟨pn, 32, none⟩ = some (.slice P ps.length cP) := (World.cell?_of_block (a := ⟨pn, 32, none⟩) (hg1.block pn (rdI_lt bx) (nS _ hSn1))).trans bs
          have hsl1 := hslb.frO hg1 (hfA.mono hSS) nS
          have hnd1 := hndb.frO hg1 (hfN.mono hSS) nS
          have qa1 := bxI_fr qab hg1 (nS _ (hSS _ hSa))
          have qb1 := bxI_fr qbb hg1 (nS _ (hSS _ hSb))
          have hP1 := hP.fr0 hE1.fr
          obtain ⟨cd, G2, hadd⟩ : ∃ cd G2, addG m.reverse x ps = (cd, G2) := ⟨_, _, rfl⟩
          rw [hadd] at hE1 ⊢
          have HADD := Lib.hid hadd
          have HOKM := Lib.hid hokm
          have HFA := Lib.hid (hfA.mono hSS)
          have HFN := Lib.hid (NvO.mono hfN hSS)
          have hSa1 := hSS _ hSa
          have hSb1 := hSS _ hSb
          clear hadd hokm hfA hfN bx bs hDb hPb hslb hndb qab qbb nS hg1 hSa hSb hSS hP
          go_wp2_with fail
          have fd := (Fr.refl noB v1).drew
          have keep : ∀ w' w'' : World, Fr noB w' w'' → (rdI w' pn 0 = some x ∧ w'.cell? ⟨pn, 32, none⟩ = some (.slice P ps.length cP)) → (rdI w'' pn 0 = some x ∧ w''.cell? ⟨pn, 32, none⟩ = some (.slice P ps.length cP)) := fun w' w'' f h =>
            ⟨rdI_fr h.1 (rdI_lt h.1) f (by simp [noB]), (World.cell?_of_block (a := ⟨pn, 32, none⟩) (f.block pn (rdI_lt h.1) (by simp [noB]))).trans h.2⟩
          have F0 := keep _ _ fd ⟨bx1, bs1⟩
          refine wp_region_M 12 13 [⟨17592186044416, 256, 0⟩, ⟨35184372088832, 1024, 0⟩, ⟨70368744177664, 35184372088832, 2⟩, ⟨140737488355328, 1024, 0⟩, ⟨281474976710656, 140737488355328, 8⟩, ⟨562949953421312, 281474976710656, 16⟩, ⟨1125899906842624, 633318697598976, 36⟩, ⟨2251799813685248, 1143492092887040, 97⟩, ⟨8796093022208, 2251799813685248, 128⟩, ⟨4503599627370496, 8796093022208, 256⟩, ⟨9007199254740992, 8796093022208, 256⟩, ⟨4096, 4503599627370496, 1023⟩, ⟨8192, 9007199254740992, 4095⟩] [(true, 0), (true, 1), (true, 2), (true, 3), (true, 4), (false, 5), (true, 6), (false, 7), (true, 8), (true, 9), (true, 10), (true, 11)] (fun w' => rdI w' pn 0 = some x ∧ w'.cell? ⟨pn, 32, none⟩ = some (.slice P ps.length cP)) (by kernel_rfl) rfl (by kernel_rfl) (by kernel_rfl) (by kernel_rfl) F0 (fun hA hF => ?_)
          refine wpAnyS_take (v := ?_) hA rfl (fun _ _ _ h => h) (Or.inl ⟨by rfl, ?_⟩) hF (fun hA => ?_)
          rotate_left
          · intro wS hSw; (try dsimp only at hSw); obtain ⟨s1, s2⟩ := hSw; first | (apply Eq.trans; apply ex_ld_id; exact rfl; exact rfl; assumption; with_reducible rfl) | (apply Eq.trans; apply ex_ld_arr; exact rfl; exact rfl; assumption; with_reducible rfl) | (apply Eq.trans; apply ex_bldR_at; exact rfl; exact rfl; exact rfl; with_reducible rfl) | (go_simp; try with_reducible rfl)
          try simp only [List.getElem_toArray, List.getElem_cons_zero, List.getElem_cons_succ, Act.put, List.setIfInBounds_toArray, List.set_cons_zero, List.set_cons_succ]
          refine wpAnyS_take (v := ?_) hA rfl (fun _ _ _ h => h) (Or.inl ⟨by rfl, ?_⟩) hF (fun hA => ?_)
          rotate_left
          · intro wS hSw; (try dsimp only at hSw); obtain ⟨s1, s2⟩ := hSw; first | (apply Eq.trans; apply ex_ld_id; exact rfl; exact rfl; assumption; with_reducible rfl) | (apply Eq.trans; apply ex_ld_arr; exact rfl; exact rfl; assumption; with_reducible rfl) | (apply Eq.trans; apply ex_bldR_at; exact rfl; exact rfl; exact rfl; with_reducible rfl) | (go_simp; try with_reducible rfl)
          try simp only [List.getElem_toArray, List.getElem_cons_zero, List.getElem_cons_succ, Act.put, List.setIfInBounds_toArray, List.set_cons_zero, List.set_cons_succ]
          refine wpAnyS_take (v := ?_) hA rfl (fun _ _ _ h => h) (Or.inl ⟨by rfl, ?_⟩) hF (fun hA => ?_)
          rotate_left
          · intro wS hSw; (try dsimp only at hSw); obtain ⟨s1, s2⟩ := hSw; first | (apply Eq.trans; apply ex_ld_id; exact rfl; exact rfl; assumption; with_reducible rfl) | (apply Eq.trans; apply ex_ld_arr; exact rfl; exact rfl; assumption; with_reducible rfl) | (apply Eq.trans; apply ex_bldR_at; exact rfl; exact rfl; exact rfl; with_reducible rfl) | (go_simp; try with_reducible rfl)
          try simp only [List.getElem_toArray, List.getElem_cons_zero, List.getElem_cons_succ, Act.put, List.setIfInBounds_toArray, List.set_cons_zero, List.set_cons_succ]
          refine wpAnyS_take (v := ?_) hA rfl (fun _ _ _ h => h) (Or.inl ⟨by rfl, ?_⟩) hF (fun hA => ?_)
          rotate_left
          · intro wS hSw; (try dsimp only at hSw); obtain ⟨s1, s2⟩ := hSw; first | (apply Eq.trans; apply ex_ld_id; exact rfl; exact rfl; assumption; with_reducible rfl) | (apply Eq.trans; apply ex_ld_arr; exact rfl; exact rfl; assumption; with_reducible rfl) | (apply Eq.trans; apply ex_bldR_at; exact rfl; exact rfl; exact rfl; with_reducible rfl) | (go_simp; try with_reducible rfl)
          try simp only [List.getElem_toArray, List.getElem_cons_zero, List.getElem_cons_succ, Act.put, List.setIfInBounds_toArray, List.set_cons_zero, List.set_cons_succ]
          refine wpAnyS_take (v := ?_) hA rfl (fun _ _ _ h => h) (Or.inl ⟨by rfl, ?_⟩) hF (fun hA => ?_)
          rotate_left
          · intro wS hSw; (try dsimp only at hSw); obtain ⟨s1, s2⟩ := hSw; first | (apply Eq.trans; apply ex_ld_id; exact rfl; exact rfl; assumption; with_reducible rfl) | (apply Eq.trans; apply ex_ld_arr; exact rfl; exact rfl; assumption; with_reducible rfl) | (apply Eq.trans; apply ex_bldR_at; exact rfl; exact rfl; exact rfl; with_reducible rfl) | (go_simp; try with_reducible rfl)
          try simp only [List.getElem_toArray, List.getElem_cons_zero, List.getElem_cons_succ, Act.put, List.setIfInBounds_toArray, List.set_cons_zero, List.set_cons_succ]
          refine wpAnyS_one hA rfl (fun K' hK => ?_)
          go_simp
          go_at_call 12
          refine (list_any _ P cP _ ps rfl (hP1.fr0 fd) (by omega)).mono ?_
          rintro e v2 ⟨A5, c5, rfl, ho5, hu2⟩
          replace hF := keep _ _ hu2 hF
          refine hK.out _ _ hF (fun hA => ?_)
          clear hK K'
          as_aux_lemma =>
          have f12 := fd.step0 hu2
          refine wpAnyS_take (v := ?_) hA rfl (fun _ _ _ h => h) (Or.inl ⟨by rfl, ?_⟩) hF (fun hA => ?_)
          rotate_left
          · intro wS hSw; (try dsimp only at hSw); obtain ⟨s1, s2⟩ := hSw; first | (apply Eq.trans; apply ex_ld_id; exact rfl; exact rfl; assumption; with_reducible rfl) | (apply Eq.trans; apply ex_ld_arr; exact rfl; exact rfl; assumption; with_reducible rfl) | (apply Eq.trans; apply ex_bldR_at; exact rfl; exact rfl; exact rfl; with_reducible rfl) | (go_simp; try with_reducible rfl)
          try simp only [List.getElem_toArray, List.getElem_cons_zero, List.getElem_cons_succ, Act.put, List.setIfInBounds_toArray, List.set_cons_zero, List.set_cons_succ]
          refine wpAnyS_one hA rfl (fun K' hK => ?_)
          go_simp
          go_at_call 11
          refine (refAdd_any v2 A c _ nv m rfl (hsl1.fr0 f12) (hnd1.fr0 f12) HOKM.out (by omega) x A5 c5 _ ps rfl (Sl.own ho5) (by omega)).mono ?_
          rintro e v3 ⟨A7, c7, nv7, m7, rfl, hrev, hu3, hcase⟩
          replace hF := keep _ _ hu3 hF
          refine hK.out _ _ hF (fun hA => ?_)
          clear hK K'
          as_aux_lemma =>
          rw [HADD.out] at hrev ⊢
          refine wpAnyS_take (v := ?_) hA rfl (fun _ _ _ h => h) (Or.inl ⟨by rfl, ?_⟩) hF (fun hA => ?_)
          rotate_left
          · intro wS hSw; (try dsimp only at hSw); obtain ⟨s1, s2⟩ := hSw; first | (apply Eq.trans; apply ex_ld_id; exact rfl; exact rfl; assumption; with_reducible rfl) | (apply Eq.trans; apply ex_ld_arr; exact rfl; exact rfl; assumption; with_reducible rfl) | (apply Eq.trans; apply ex_bldR_at; exact rfl; exact rfl; exact rfl; with_reducible rfl) | (go_simp; try with_reducible rfl)
          try simp only [List.getElem_toArray, List.getElem_cons_zero, List.getElem_cons_succ, Act.put, List.setIfInBounds_toArray, List.set_cons_zero, List.set_cons_succ]
          refine wpAnyS_take (v := ?_) hA rfl (fun _ _ _ h => h) (Or.inl ⟨by rfl, ?_⟩) hF (fun hA => ?_)
          rotate_left
          · intro wS hSw; (try dsimp only at hSw); obtain ⟨s1, s2⟩ := hSw; first | (apply Eq.trans; apply ex_ld_id; exact rfl; exact rfl; assumption; with_reducible rfl) | (apply Eq.trans; apply ex_ld_arr; exact rfl; exact rfl; assumption; with_reducible rfl) | (apply Eq.trans; apply ex_bldR_at; exact rfl; exact rfl; exact rfl; with_reducible rfl) | (go_simp; try with_reducible rfl)
          try simp only [List.getElem_toArray, List.getElem_cons_zero, List.getElem_cons_succ, Act.put, List.setIfInBounds_toArray, List.set_cons_zero, List.set_cons_succ]
          refine wpAnyS_take (v := ?_) hA rfl (fun _ _ _ h => h) (Or.inl ⟨by rfl, ?_⟩) hF (fun hA => ?_)
          rotate_left
          · intro wS hSw; (try dsimp only at hSw); obtain ⟨s1, s2⟩ := hSw; first | (apply Eq.trans; apply ex_ld_id; exact rfl; exact rfl; assumption; with_reducible rfl) | (apply Eq.trans; apply ex_ld_arr; exact rfl; exact rfl; assumption; with_reducible rfl) | (apply Eq.trans; apply ex_bldR_at; exact rfl; exact rfl; exact rfl; with_reducible rfl) | (go_simp; try with_reducible rfl)
          try simp only [List.getElem_toArray, List.getElem_cons_zero, List.getElem_cons_succ, Act.put, List.setIfInBounds_toArray, List.set_cons_zero, List.set_cons_succ]
          refine wpAnyS_take (v := ?_) hA rfl (fun _ _ _ h => h) (Or.inl ⟨by rfl, ?_⟩) hF (fun hA => ?_)
          rotate_left
          · intro wS hSw; (try dsimp only at hSw); obtain ⟨s1, s2⟩ := hSw; first | (apply Eq.trans; apply ex_ld_id; exact rfl; exact rfl; assumption; with_reducible rfl) | (apply Eq.trans; apply ex_ld_arr; exact rfl; exact rfl; assumption; with_reducible rfl) | (apply Eq.trans; apply ex_bldR_at; exact rfl; exact rfl; exact rfl; with_reducible rfl) | (go_simp; try with_reducible rfl)
          try simp only [List.getElem_toArray, List.getElem_cons_zero, List.getElem_cons_succ, Act.put, List.setIfInBounds_toArray, List.set_cons_zero, List.set_cons_succ]
          refine wpAnyS_end hA rfl ?_
          simp only [List.drop_succ_cons, List.drop_zero]
          have bx3 := hF.1
          clear hF F0 keep bx1 bs1
          have hrev : m7.reverse = G2 := hrev
          have f13 := f12.step0 hu3
          have hE3 := hE1.more f13
          have qa3 := bxI_fr qa1 f13 (by simp [noB])
          have qb3 := bxI_fr qb1 f13 (by simp [noB])
          have hnew : Sl v3 A7 (lnR nv7) ∧ NdV v3 nv7 m7 ∧ m7.length ≤ k + 1 ∧ Off A7 (fun b => S1 b ∨ (v1.heap.size ≤ b ∧ b < v3.heap.size)) ∧ NvO nv7 (fun b => S1 b ∨ (v1.heap.size ≤ b ∧ b < v3.heap.size)) := by
            rcases hcase with ⟨rfl, rfl, rfl⟩ | ⟨rfl, rfl, hown⟩
            · exact ⟨hsl1.fr0 f13, hnd1.fr0 f13, by omega, HFA.out.mono (fun b hb => .inl hb), NvO.mono HFN.out (fun b hb => .inl hb)⟩
            · refine ⟨Sl.own hown, (hnd1.fr0 f13).app (.cons ⟨rfl, A5, c5, rfl, (Sl.own ho5).fr0 hu3⟩ .nil), by simp; omega, (Off.own hown).mono (fun b hb => .inr ⟨Nat.le_trans f12.size hb.1, hb.2⟩), fun p hp B n c2 e => ?_⟩
              rcases List.mem_append.1 hp with hp | hp
              · exact (HFN.out p hp B n c2 e).mono (fun b hb => .inl hb)
              · rw [List.mem_singleton] at hp
                subst hp
                injection e with e1 e2 e3
                subst e1
                exact (Off.own ho5).mono (fun b hb => .inr ⟨Nat.le_trans fd.size hb.1, Nat.lt_of_lt_of_le hb.2 hu3.size⟩)
          have hS3 : (fun b => S1 b ∨ (v1.heap.size ≤ b ∧ b < v3.heap.size)) pa ∧ (fun b => S1 b ∨ (v1.heap.size ≤ b ∧ b < v3.heap.size)) (pa + 1) := ⟨.inl hSa1, .inl hSb1⟩
          generalize (fun b => S1 b ∨ (v1.heap.size ≤ b ∧ b < v3.heap.size)) = S3 at hE3 hnew hS3
          obtain ⟨hsl7, hnd7, hm7, hfA7, hfN7⟩ := hnew
          have HF7 := Lib.hid hfA7
          have HN7 := Lib.hid hfN7
          have hlen : G2.length = m7.length := by rw [← hrev, List.length_reverse]
          have hgq : decide ((0 : Int) ≤ findI m7 x) = hasG G2 x := by
            rw [← hrev, find_geq]
            unfold findI
            by_cases h : findN m7 x < m7.length
            · rw [if_pos h]; simp [h]
            · rw [if_neg h]; simp [h]
          have HREV := Lib.hid hrev
          have HLEN := Lib.hid hlen
          clear hcase hfA7 hfN7 hrev hlen hE1 hsl1 hnd1 f12 ho5 hu2 hu3 HFA HFN qa1 qb1 hP1
          obtain ⟨Fd, hI⟩ := hE3
          have dE := hI.at_
          have hRf : RfA v3 A7 m7 := ⟨nv7, hsl7, hnd7⟩
          have fe := (Fr.refl noB v3).drew
          have F1 : rdI v3.drew pn 0 = some x := rdI_fr bx3 (rdI_lt bx3) fe (by simp [noB])
          have keep : ∀ w' w'' : World, Fr noB w' w'' → (rdI w' pn 0 = some x) → (rdI w'' pn 0 = some x) := fun w' w'' f h => rdI_fr h (rdI_lt h) f (by simp [noB])
          go_wp2_with fail
          refine wp_region_M 21 22 [⟨36028797018963968, 2048, 0⟩, ⟨72057594037927936, 8192, 0⟩, ⟨144115188075855872, 108086391056891904, 3⟩, ⟨288230376151711744, 144115188075855872, 4⟩, ⟨576460752303423488, 288230376151711872, 8⟩, ⟨1152921504606846976, 864691128455135232, 24⟩, ⟨2305843009213693952, 288230376151712000, 8⟩, ⟨4611686018427387904, 2594073385365405696, 72⟩, ⟨9223372036854775808, 6052837899185946624, 168⟩, ⟨18446744073709551616, 9511602413006487552, 264⟩, ⟨36893488147419103232, 18446744073709551616, 544⟩, ⟨73786976294838206464, 36893488147419103360, 1024⟩, ⟨147573952589676412928, 36893488147419104256, 1024⟩, ⟨295147905179352825856, 184467440737095516160, 5120⟩, ⟨590295810358705651712, 405828369621610135552, 11264⟩, ⟨1180591620717411303424, 36893488147419103488, 1024⟩, ⟨2361183241434822606848, 36893488147419104256, 1024⟩, ⟨4722366482869645213696, 2398076729582241710080, 66560⟩, ⟨9444732965739290427392, 5939851591734475620352, 181248⟩, ⟨18889465931478580854784, 9481626453886709530624, 263168⟩, ⟨37778931862957161709568, 19516655229984705609728, 541696⟩, ⟨75557863725914323419136, 37815825351104580812800, 1049600⟩] [(true, 0), (true, 1), (true, 2), (true, 3), (true, 4), (true, 6), (true, 7), (false, 5), (true, 8), (true, 9), (true, 10), (true, 11), (true, 12), (true, 13), (true, 15), (true, 16), (true, 17), (false, 14), (false, 18), (true, 19), (true, 20)] (fun w' => rdI w' pn 0 = some x) (by kernel_rfl) rfl (by kernel_rfl) (by kernel_rfl) (by kernel_rfl) F1 (fun hA hF => ?_)
          refine wpAnyS_take (v := ?_) hA rfl (fun _ _ _ h => h) (Or.inl ⟨by rfl, ?_⟩) hF (fun hA => ?_)
          rotate_left
          · intro wS hSw; (try dsimp only at hSw); obtain s1 := hSw; first | (apply Eq.trans; apply ex_ld_id; exact rfl; exact rfl; assumption; with_reducible rfl) | (apply Eq.trans; apply ex_ld_arr; exact rfl; exact rfl; assumption; with_reducible rfl) | (apply Eq.trans; apply ex_bldR_at; exact rfl; exact rfl; exact rfl; with_reducible rfl) | (go_simp; try with_reducible rfl)
          try simp only [List.getElem_toArray, List.getElem_cons_zero, List.getElem_cons_succ, Act.put, List.setIfInBounds_toArray, List.set_cons_zero, List.set_cons_succ]
          refine wpAnyS_take (v := ?_) hA rfl (fun _ _ _ h => h) (Or.inl ⟨by rfl, ?_⟩) hF (fun hA => ?_)
          rotate_left
          · intro wS hSw; (try dsimp only at hSw); obtain s1 := hSw; first | (apply Eq.trans; apply ex_ld_id; exact rfl; exact rfl; assumption; with_reducible rfl) | (apply Eq.trans; apply ex_ld_arr; exact rfl; exact rfl; assumption; with_reducible rfl) | (apply Eq.trans; apply ex_bldR_at; exact rfl; exact rfl; exact rfl; with_reducible rfl) | (go_simp; try with_reducible rfl)
          try simp only [List.getElem_toArray, List.getElem_cons_zero, List.getElem_cons_succ, Act.put, List.setIfInBounds_toArray, List.set_cons_zero, List.set_cons_succ]
          refine wpAnyS_take (v := ?_) hA rfl (fun _ _ _ h => h) (Or.inl ⟨by rfl, ?_⟩) hF (fun hA => ?_)
          rotate_left
          · intro wS hSw; (try dsimp only at hSw); obtain s1 := hSw; first | (apply Eq.trans; apply ex_ld_id; exact rfl; exact rfl; assumption; with_reducible rfl) | (apply Eq.trans; apply ex_ld_arr; exact rfl; exact rfl; assumption; with_reducible rfl) | (apply Eq.trans; apply ex_bldR_at; exact rfl; exact rfl; exact rfl; with_reducible rfl) | (go_simp; try with_reducible rfl)
          try simp only [List.getElem_toArray, List.getElem_cons_zero, List.getElem_cons_succ, Act.put, List.setIfInBounds_toArray, List.set_cons_zero, List.set_cons_succ]
          refine wpAnyS_take (v := ?_) hA rfl (fun _ _ _ h => h) (Or.inl ⟨by rfl, ?_⟩) hF (fun hA => ?_)
          rotate_left
          · intro wS hSw; (try dsimp only at hSw); obtain s1 := hSw; first | (apply Eq.trans; apply ex_ld_id; exact rfl; exact rfl; assumption; with_reducible rfl) | (apply Eq.trans; apply ex_ld_arr; exact rfl; exact rfl; assumption; with_reducible rfl) | (apply Eq.trans; apply ex_bldR_at; exact rfl; exact rfl; exact rfl; with_reducible rfl) | (go_simp; try with_reducible rfl)
          try simp only [List.getElem_toArray, List.getElem_cons_zero, List.getElem_cons_succ, Act.put, List.setIfInBounds_toArray, List.set_cons_zero, List.set_cons_succ]
          refine wpAnyS_take (v := ?_) hA rfl (fun _ _ _ h => h) (Or.inl ⟨by rfl, ?_⟩) hF (fun hA => ?_)
          rotate_left
          · intro wS hSw; (try dsimp only at hSw); obtain s1 := hSw; first | (apply Eq.trans; apply ex_ld_id; exact rfl; exact rfl; assumption; with_reducible rfl) | (apply Eq.trans; apply ex_ld_arr; exact rfl; exact rfl; assumption; with_reducible rfl) | (apply Eq.trans; apply ex_bldR_at; exact rfl; exact rfl; exact rfl; with_reducible rfl) | (go_simp; try with_reducible rfl)
          try simp only [List.getElem_toArray, List.getElem_cons_zero, List.getElem_cons_succ, Act.put, List.setIfInBounds_toArray, List.set_cons_zero, List.set_cons_succ]
          refine wpAnyS_take (v := ?_) hA rfl (fun _ _ _ h => h) (Or.inl ⟨by rfl, ?_⟩) hF (fun hA => ?_)
          rotate_left
          · intro wS hSw; (try dsimp only at hSw); obtain s1 := hSw; first | (apply Eq.trans; apply ex_ld_id; exact rfl; exact rfl; assumption; with_reducible rfl) | (apply Eq.trans; apply ex_ld_arr; exact rfl; exact rfl; assumption; with_reducible rfl) | (apply Eq.trans; apply ex_bldR_at; exact rfl; exact rfl; exact rfl; with_reducible rfl) | (go_simp; try with_reducible rfl)
          try simp only [List.getElem_toArray, List.getElem_cons_zero, List.getElem_cons_succ, Act.put, List.setIfInBounds_toArray, List.set_cons_zero, List.set_cons_succ]
          refine wpAnyS_take (v := ?_) hA rfl (fun _ _ _ h => h) (Or.inl ⟨by rfl, ?_⟩) hF (fun hA => ?_)
          rotate_left
          · intro wS hSw; (try dsimp only at hSw); obtain s1 := hSw; first | (apply Eq.trans; apply ex_ld_id; exact rfl; exact rfl; assumption; with_reducible rfl) | (apply Eq.trans; apply ex_ld_arr; exact rfl; exact rfl; assumption; with_reducible rfl) | (apply Eq.trans; apply ex_bldR_at; exact rfl; exact rfl; exact rfl; with_reducible rfl) | (go_simp; try with_reducible rfl)
          try simp only [List.getElem_toArray, List.getElem_cons_zero, List.getElem_cons_succ, Act.put, List.setIfInBounds_toArray, List.set_cons_zero, List.set_cons_succ]
          refine wpAnyS_one hA rfl (fun K' hK => ?_)
          rw [if_pos (by rfl)]
          go_simp
          go_at_call 13
          refine (len_any _ D Fd G2 (dE.fr0 fe)).mono ?_
          rintro e u1 ⟨rfl, hu1⟩
          replace hF := keep _ _ hu1 hF
          refine hK.out _ _ hF (fun hA => ?_)
          clear hK K'
          as_aux_lemma =>
          rw [HLEN.out]
          refine wpAnyS_take (v := ?_) hA rfl (fun _ _ _ h => h) (Or.inl ⟨by rfl, ?_⟩) hF (fun hA => ?_)
          rotate_left
          · intro wS hSw; (try dsimp only at hSw); obtain s1 := hSw; first | (apply Eq.trans; apply ex_ld_id; exact rfl; exact rfl; assumption; with_reducible rfl) | (apply Eq.trans; apply ex_ld_arr; exact rfl; exact rfl; assumption; with_reducible rfl) | (apply Eq.trans; apply ex_bldR_at; exact rfl; exact rfl; exact rfl; with_reducible rfl) | (go_simp; try with_reducible rfl)
          try simp only [List.getElem_toArray, List.getElem_cons_zero, List.getElem_cons_succ, Act.put, List.setIfInBounds_toArray, List.set_cons_zero, List.set_cons_succ]
          refine wpAnyS_take (v := ?_) hA rfl (fun _ _ _ h => h) (Or.inl ⟨by rfl, ?_⟩) hF (fun hA => ?_)
          rotate_left
          · intro wS hSw; (try dsimp only at hSw); obtain s1 := hSw; first | (apply Eq.trans; apply ex_ld_id; exact rfl; exact rfl; assumption; with_reducible rfl) | (apply Eq.trans; apply ex_ld_arr; exact rfl; exact rfl; assumption; with_reducible rfl) | (apply Eq.trans; apply ex_bldR_at; exact rfl; exact rfl; exact rfl; with_reducible rfl) | (go_simp; try with_reducible rfl)
          try simp only [List.getElem_toArray, List.getElem_cons_zero, List.getElem_cons_succ, Act.put, List.setIfInBounds_toArray, List.set_cons_zero, List.set_cons_succ]
          refine wpAnyS_take (v := ?_) hA rfl (fun _ _ _ h => h) (Or.inl ⟨by rfl, ?_⟩) hF (fun hA => ?_)
          rotate_left
          · intro wS hSw; (try dsimp only at hSw); obtain s1 := hSw; first | (apply Eq.trans; apply ex_ld_id; exact rfl; exact rfl; assumption; with_reducible rfl) | (apply Eq.trans; apply ex_ld_arr; exact rfl; exact rfl; assumption; with_reducible rfl) | (apply Eq.trans; apply ex_bldR_at; exact rfl; exact rfl; exact rfl; with_reducible rfl) | (go_simp; try with_reducible rfl)
          try simp only [List.getElem_toArray, List.getElem_cons_zero, List.getElem_cons_succ, Act.put, List.setIfInBounds_toArray, List.set_cons_zero, List.set_cons_succ]
          refine wpAnyS_take (v := ?_) hA rfl (fun _ _ _ h => h) (Or.inl ⟨by rfl, ?_⟩) hF (fun hA => ?_)
          rotate_left
          · intro wS hSw; (try dsimp only at hSw); obtain s1 := hSw; first | (apply Eq.trans; apply ex_ld_id; exact rfl; exact rfl; assumption; with_reducible rfl) | (apply Eq.trans; apply ex_ld_arr; exact rfl; exact rfl; assumption; with_reducible rfl) | (apply Eq.trans; apply ex_bldR_at; exact rfl; exact rfl; exact rfl; with_reducible rfl) | (go_simp; try with_reducible rfl)
          try simp only [List.getElem_toArray, List.getElem_cons_zero, List.getElem_cons_succ, Act.put, List.setIfInBounds_toArray, List.set_cons_zero, List.set_cons_succ]
          refine wpAnyS_take (v := ?_) hA rfl (fun _ _ _ h => h) (Or.inl ⟨by rfl, ?_⟩) hF (fun hA => ?_)
          rotate_left
          · intro wS hSw; (try dsimp only at hSw); obtain s1 := hSw; first | (apply Eq.trans; apply ex_ld_id; exact rfl; exact rfl; assumption; with_reducible rfl) | (apply Eq.trans; apply ex_ld_arr; exact rfl; exact rfl; assumption; with_reducible rfl) | (apply Eq.trans; apply ex_bldR_at; exact rfl; exact rfl; exact rfl; with_reducible rfl) | (go_simp; try with_reducible rfl)
          try simp only [List.getElem_toArray, List.getElem_cons_zero, List.getElem_cons_succ, Act.put, List.setIfInBounds_toArray, List.set_cons_zero, List.set_cons_succ]
          refine wpAnyS_take (v := ?_) hA rfl (fun _ _ _ h => h) (Or.inl ⟨by rfl, ?_⟩) hF (fun hA => ?_)
          rotate_left
          · intro wS hSw; (try dsimp only at hSw); obtain s1 := hSw; first | (apply Eq.trans; apply ex_ld_id; exact rfl; exact rfl; assumption; with_reducible rfl) | (apply Eq.trans; apply ex_ld_arr; exact rfl; exact rfl; assumption; with_reducible rfl) | (apply Eq.trans; apply ex_bldR_at; exact rfl; exact rfl; exact rfl; with_reducible rfl) | (go_simp; try with_reducible rfl)
          try simp only [List.getElem_toArray, List.getElem_cons_zero, List.getElem_cons_succ, Act.put, List.setIfInBounds_toArray, List.set_cons_zero, List.set_cons_succ]
          refine wpAnyS_take (v := ?_) hA rfl (fun _ _ _ h => h) (Or.inl ⟨by rfl, ?_⟩) hF (fun hA => ?_)
          rotate_left
          · intro wS hSw; (try dsimp only at hSw); obtain s1 := hSw; first | (apply Eq.trans; apply ex_ld_id; exact rfl; exact rfl; assumption; with_reducible rfl) | (apply Eq.trans; apply ex_ld_arr; exact rfl; exact rfl; assumption; with_reducible rfl) | (apply Eq.trans; apply ex_bldR_at; exact rfl; exact rfl; exact rfl; with_reducible rfl) | (go_simp; try with_reducible rfl)
          try simp only [List.getElem_toArray, List.getElem_cons_zero, List.getElem_cons_succ, Act.put, List.setIfInBounds_toArray, List.set_cons_zero, List.set_cons_succ]
          refine wpAnyS_take (v := ?_) hA rfl (fun _ _ _ h => h) (Or.inl ⟨by rfl, ?_⟩) hF (fun hA => ?_)
          rotate_left
          · intro wS hSw; (try dsimp only at hSw); obtain s1 := hSw; first | (apply Eq.trans; apply ex_ld_id; exact rfl; exact rfl; assumption; with_reducible rfl) | (apply Eq.trans; apply ex_ld_arr; exact rfl; exact rfl; assumption; with_reducible rfl) | (apply Eq.trans; apply ex_bldR_at; exact rfl; exact rfl; exact rfl; with_reducible rfl) | (go_simp; try with_reducible rfl)
          try simp only [List.getElem_toArray, List.getElem_cons_zero, List.getElem_cons_succ, Act.put, List.setIfInBounds_toArray, List.set_cons_zero, List.set_cons_succ]
          refine wpAnyS_take (v := ?_) hA rfl (fun _ _ _ h => h) (Or.inl ⟨by rfl, ?_⟩) hF (fun hA => ?_)
          rotate_left
          · intro wS hSw; (try dsimp only at hSw); obtain s1 := hSw; first | (apply Eq.trans; apply ex_ld_id; exact rfl; exact rfl; assumption; with_reducible rfl) | (apply Eq.trans; apply ex_ld_arr; exact rfl; exact rfl; assumption; with_reducible rfl) | (apply Eq.trans; apply ex_bldR_at; exact rfl; exact rfl; exact rfl; with_reducible rfl) | (go_simp; try with_reducible rfl)
          try simp only [List.getElem_toArray, List.getElem_cons_zero, List.getElem_cons_succ, Act.put, List.setIfInBounds_toArray, List.set_cons_zero, List.set_cons_succ]
          refine wpAnyS_one hA rfl (fun K' hK => ?_)
          rw [if_pos (by rfl)]
          go_simp
          go_at_call 14
          refine (has_any _ D Fd G2 (dE.fr0 (fe.step0 hu1)) x).mono ?_
          rintro e u2 ⟨rfl, hu2⟩
          replace hF := keep _ _ hu2 hF
          refine hK.out _ _ hF (fun hA => ?_)
          clear hK K'
          as_aux_lemma =>
          refine wpAnyS_one hA rfl (fun K' hK => ?_)
          rw [if_pos (by rfl)]
          go_simp
          go_at_call 15
          refine (find_any _ A7 c7 _ m7 rfl (hRf.fr0 ((fe.step0 hu1).step0 hu2)) (by omega) x).mono ?_
          rintro e u3 ⟨rfl, hu3⟩
          replace hF := keep _ _ hu3 hF
          refine hK.out _ _ hF (fun hA => ?_)
          clear hK K'
          as_aux_lemma =>
          rw [← hgq]
          have hF2 := hF
          clear hF
          have fu3 := ((fe.step0 hu1).step0 hu2).step0 hu3
          have qa4 := bxI_fr qa3 fu3 (by simp [noB])
          have qb4 := bxI_fr qb3 fu3 (by simp [noB])
          have hsl8 := hsl7.fr0 fu3
          have hnd8 := hnd7.fr0 fu3
          have hL8 := DagL.fr0 (S := S3) ⟨Fd, hI⟩ fu3
          rw [← HREV.out] at hL8
          have hF := hF2
          clear hF2 hRf dE hI hsl7 hnd7 qa3 qb3 hgq F1 bx3
          generalize findI m7 x = fi
          by_cases hfi : (0 : Int) ≤ fi
          · have e3 : decide ((0 : Int) ≤ fi) = true := by simpa using hfi
            rw [e3]
            refine wpAnyS_take (v := ?_) hA rfl (fun _ _ _ h => h) (Or.inl ⟨by rfl, ?_⟩) hF (fun hA => ?_)
            rotate_left
            · intro wS hSw; (try dsimp only at hSw); obtain s1 := hSw; first | (apply Eq.trans; apply ex_ld_id; exact rfl; exact rfl; assumption; with_reducible rfl) | (apply Eq.trans; apply ex_ld_arr; exact rfl; exact rfl; assumption; with_reducible rfl) | (apply Eq.trans; apply ex_bldR_at; exact rfl; exact rfl; exact rfl; with_reducible rfl) | (go_simp; try with_reducible rfl)
            try simp only [List.getElem_toArray, List.getElem_cons_zero, List.getElem_cons_succ, Act.put, List.setIfInBounds_toArray, List.set_cons_zero, List.set_cons_succ]
            refine wpAnyS_take (v := ?_) hA rfl (fun _ _ _ h => h) (Or.inl ⟨by rfl, ?_⟩) hF (fun hA => ?_)
            rotate_left
            · intro wS hSw; (try dsimp only at hSw); obtain s1 := hSw; first | (apply Eq.trans; apply ex_ld_id; exact rfl; exact rfl; assumption; with_reducible rfl) | (apply Eq.trans; apply ex_ld_arr; exact rfl; exact rfl; assumption; with_reducible rfl) | (apply Eq.trans; apply ex_bldR_at; exact rfl; exact rfl; exact rfl; with_reducible rfl) | (go_simp; try with_reducible rfl)
            try simp only [List.getElem_toArray, List.getElem_cons_zero, List.getElem_cons_succ, Act.put, List.setIfInBounds_toArray, List.set_cons_zero, List.set_cons_succ]
            refine wpAnyS_end hA rfl ?_
            simp only [List.drop_succ_cons, List.drop_zero]
            clear hF
            go_wp2_with fail
            go_roundg (nodes.length - (k + 1))
            case measure => omega
            case rel => exact ⟨k + 1, S3, A7, c7, nv7, m7, by simp, rfl, by omega, rfl, hL8, hsl8, hnd8, HF7.out, HN7.out, hm7, hS3.1, hS3.2, qa4, qb4⟩
          · have e3 : decide ((0 : Int) ≤ fi) = false := by simpa using hfi
            rw [e3]
            refine wpAnyS_take (v := ?_) hA rfl (fun _ _ _ h => h) (Or.inl ⟨by rfl, ?_⟩) hF (fun hA => ?_)
            rotate_left
            · intro wS hSw; (try dsimp only at hSw); obtain s1 := hSw; first | (apply Eq.trans; apply ex_ld_id; exact rfl; exact rfl; assumption; with_reducible rfl) | (apply Eq.trans; apply ex_ld_arr; exact rfl; exact rfl; assumption; with_reducible rfl) | (apply Eq.trans; apply ex_bldR_at; exact rfl; exact rfl; exact rfl; with_reducible rfl) | (go_simp; try with_reducible rfl)
            try simp only [List.getElem_toArray, List.getElem_cons_zero, List.getElem_cons_succ, Act.put, List.setIfInBounds_toArray, List.set_cons_zero, List.set_cons_succ]
            refine wpAnyS_take (v := ?_) hA rfl (fun _ _ _ h => h) (Or.inl ⟨by rfl, ?_⟩) hF (fun hA => ?_)
            rotate_left
            · intro wS hSw; (try dsimp only at hSw); obtain s1 := hSw; first | (apply Eq.trans; apply ex_ld_id; exact rfl; exact rfl; assumption; with_reducible rfl) | (apply Eq.trans; apply ex_ld_arr; exact rfl; exact rfl; assumption; with_reducible rfl) | (apply Eq.trans; apply ex_bldR_at; exact rfl; exact rfl; exact rfl; with_reducible rfl) | (go_simp; try with_reducible rfl)
            try simp only [List.getElem_toArray, List.getElem_cons_zero, List.getElem_cons_succ, Act.put, List.setIfInBounds_toArray, List.set_cons_zero, List.set_cons_succ]
            refine wpAnyS_end hA rfl ?_
            simp only [List.drop_succ_cons, List.drop_zero]
            clear hF
            go_wp2_with fail
            go_roundg (nodes.length - (k + 1))
            case measure => omega
            case rel => exact ⟨k + 1, S3, A7, c7, nv7, m7, by simp, rfl, by omega, rfl, hL8, hsl8, hnd8, HF7.out, HN7.out, hm7, hS3.1, hS3.2, qa4, qb4⟩
      · have ek : k = nodes.length := by omega
        subst ek
        clear HRN
        obtain ⟨Fd, hI⟩ := hDk
        have dG := hI.at_
        have hok := hI.at_.ok
        have fw := hI.fr
        have hRf : RfA wl A m := ⟨nv, hsl, hnd⟩
        have va := bxI_rd qa
        have vb := bxI_rd qb
        have HOK := Lib.hid hok
        clear hI hok hsl hnd hfA hfN hSa hSb qa qb
        go_wp2_with fail
        go_loopg [80] m.length (fun gk kv wr => PlB wl m.length gk kv wr)
        case atStart => exact ⟨0, rfl, rfl, by omega, Fr.refl _ _⟩
        case round =>
          obtain ⟨k, rfl, rfl, hkm, hf⟩ := hrel
          by_cases hlk : k < m.length
          · have i0 : (0 : Int) ≤ (k : Int) := by omega
            have i1 : (k : Int) < (m.length : Int) := by omega
            obtain ⟨g, off, e9⟩ := hRf.ad (by omega)
            subst e9
            obtain ⟨P, cP, hrn, hP⟩ := (hRf.fr0 hf).at k hlk
            have hld := ldR_at hrn
            have hpar := par_at HOK.out k hlk
            have hpl := ps_len HOK.out k hlk
            generalize (m[k]).1 = x at hld hrn hpar
            generalize (m[k]).2 = ps at hld hrn hP hpar hpl
            have HPAR := Lib.hid hpar
            clear hrn hpar
            have fb : Fr noB wr (wr.alloc (rno (x, .slice P ps.length cP))) := (Fr.refl noB wr).alloc _
            have hbn := RdN.newR wr (x, .slice P ps.length cP)
            have bx := hbn.id
            have bs := hbn.sl
            simp only [Nat.zero_add] at bx bs
            have hfb := hf.step0 fb
            go_upto_region 21 with fail
            generalize wr.alloc (rno (x, .slice P ps.length cP)) = Wq at bx bs hfb fb ⊢
            generalize wr.heap.size = pq at bx bs ⊢
            have hPq := hP.fr0 fb
            have keep : ∀ w' w'' : World, Fr noB w' w'' → (rdI w' pq 0 = some x ∧ w'.cell? ⟨pq, 32, none⟩ = some (.slice P ps.length cP) ∧ rdI w' pa 0 = some a ∧ rdI w' (pa + 1) 0 = some b) → (rdI w'' pq 0 = some x ∧ w''.cell? ⟨pq, 32, none⟩ = some (.slice P ps.length cP) ∧ rdI w'' pa 0 = some a ∧ rdI w'' (pa + 1) 0 = some b) := fun w' w'' f h =>
              ⟨rdI_fr h.1 (rdI_lt h.1) f (by simp [noB]), (World.cell?_of_block (a := ⟨pq, 32, none⟩) (f.block pq (rdI_lt h.1) (by simp [noB]))).trans h.2.1, rdI_fr h.2.2.1 (rdI_lt h.2.2.1) f (by simp [noB]), rdI_fr h.2.2.2 (rdI_lt h.2.2.2) f (by simp [noB])⟩
            have fq := (Fr.refl noB Wq).drew
            have F0 := keep _ _ fq ⟨bx, bs, rdI_fr va (rdI_lt va) hfb (by simp [noB]), rdI_fr vb (rdI_lt vb) hfb (by simp [noB])⟩
            clear hld hbn bx bs fb hP hf
            have dq := dG.fr0 hfb
            have hRq := hRf.fr0 hfb
            clear i0 i1
            go_wp2_with fail
            refine wp_region_T 59 60 [⟨19342813113834066795298816, 128, 0⟩, ⟨38685626227668133590597632, 32768, 0⟩, ⟨77371252455336267181195264, 38685626227668133590597632, 2⟩, ⟨154742504910672534362390528, 96714065569170333976494080, 5⟩, ⟨309485009821345068724781056, 32768, 0⟩, ⟨618970019642690137449562112, 309485009821345068724781056, 16⟩, ⟨1237940039285380274899124224, 773712524553362671811952640, 40⟩, ⟨2475880078570760549798248448, 1237940039285380274899124224, 64⟩, ⟨4951760157141521099596496896, 2475880078570760549798248448, 192⟩, ⟨9903520314283042199192993792, 4951760157141521099596497024, 256⟩, ⟨19807040628566084398385987584, 4951760157141521099596529664, 256⟩, ⟨39614081257132168796771975168, 24758800785707605497982484480, 1280⟩, ⟨79228162514264337593543950336, 54469361728556732095561465856, 2816⟩, ⟨158456325028528675187087900672, 4951760157141521099596497152, 256⟩, ⟨316912650057057350374175801344, 4951760157141521099596529664, 256⟩, ⟨633825300114114700748351602688, 321864410214198871473772298240, 16640⟩, ⟨1267650600228229401496703205376, 797233385299784897035036000256, 45312⟩, ⟨2535301200456458802993406410752, 1351830522899635260189843652608, 69888⟩, ⟨5070602400912917605986812821504, 2540252960613600324093002907648, 131328⟩, ⟨10141204801825835211973625643008, 5070602400912917605986812821504, 327680⟩, ⟨20282409603651670423947251286016, 10141204801825835211973625643136, 524288⟩, ⟨40564819207303340847894502572032, 10141204801825835211973625675776, 524288⟩, ⟨81129638414606681695789005144064, 50706024009129176059868128215040, 2621440⟩, ⟨162259276829213363391578010288128, 91270843216432516907762630787072, 4718592⟩, ⟨324518553658426726783156020576256, 192682891234690869027498887217152, 9961472⟩, ⟨649037107316853453566312041152512, 10141204801825835211973625643264, 524288⟩, ⟨1298074214633706907132624082305024, 10141204801825835211973625675776, 524288⟩, ⟨2596148429267413814265248164610048, 1308215419435532742344597707948032, 67633152⟩, ⟨5192296858534827628530496329220096, 2606289634069239649477221790253056, 134742016⟩, ⟨10384593717069655257060992658440192, 5851475170653506917308781996015616, 319291392⟩, ⟨20769187434139310514121985316880384, 10719253475529907819056122304659456, 554172416⟩, ⟨41538374868278621028243970633760768, 20779328638941136349333958942523392, 1074266112⟩, ⟨83076749736557242056487941267521536, 41548516073080446863455944259403776, 2148007936⟩, ⟨166153499473114484112975882535043072, 83076749736557242056487941267521536, 5368709120⟩, ⟨332306998946228968225951765070086144, 166153499473114484112975882535043200, 8589934592⟩, ⟨664613997892457936451903530140172288, 166153499473114484112975882535075840, 8589934592⟩, ⟨1329227995784915872903807060280344576, 830767497365572420564879412675215360, 42949672960⟩, ⟨2658455991569831745807614120560689152, 166153499473114484112975882535043104, 8589934592⟩, ⟨5316911983139663491615228241121378304, 4486144485774091071050348828446162944, 231928233984⟩, ⟨10633823966279326983230456482242756608, 166153499473114484112975882535043328, 8589934592⟩, ⟨21267647932558653966460912964485513216, 166153499473114484112975882535075840, 8589934592⟩, ⟨42535295865117307932921825928971026432, 21433801432031768450573888847020556288, 1108101562368⟩, ⟨85070591730234615865843651857942052864, 166153499473114484112975882535043104, 8589934592⟩, ⟨170141183460469231731687303715884105728, 138405865061104365266108910151690878976, 7430293422080⟩, ⟨340282366920938463463374607431768211456, 175624248943082009707415507839540527104, 9079560863744⟩, ⟨680564733841876926926749214863536422912, 340448520420411577947487583314303254528, 17600775979008⟩, ⟨1361129467683753853853498429727072845824, 680730887341350041410862190746071465984, 35192962023424⟩, ⟨2722258935367507707706996859454145691648, 1361129467683753853853498429727072845824, 87960930222080⟩, ⟨5444517870735015415413993718908291383296, 2722258935367507707706996859454145691776, 140737488355328⟩, ⟨10889035741470030830827987437816582766592, 2722258935367507707706996859454145724416, 140737488355328⟩, ⟨21778071482940061661655974875633165533184, 13611294676837538538534984297270728458240, 703687441776640⟩, ⟨43556142965880123323311949751266331066368, 2722258935367507707706996859454145691664, 140737488355328⟩, ⟨87112285931760246646623899502532662132736, 73500991254922708108088915205261933674496, 3799912185593856⟩, ⟨174224571863520493293247799005065324265472, 2722258935367507707706996859454145691904, 140737488355328⟩, ⟨348449143727040986586495598010130648530944, 2722258935367507707706996859454145724416, 140737488355328⟩, ⟨696898287454081973172991196020261297061888, 351171402662408494294202594869584794222592, 18155135997837312⟩, ⟨1393796574908163946345982392040522594123776, 2722258935367507707706996859454145691664, 140737488355328⟩, ⟨2787593149816327892691964784081045188247552, 2267641693161133920519928383925303361142784, 121737927427358720⟩, ⟨5575186299632655785383929568162090376495104, 2877427694683455647046295680443031996071936, 148759525191581696⟩, ⟨11150372599265311570767859136324180752990208, 5577908558568023293091636565021544522186752, 288371113640067072⟩] (.take 0 (.take 1 (.take 2 (.take 4 (.take 5 (.one 3 (.one 6 (.take 7 (.take 8 (.take 9 (.take 10 (.take 11 (.take 13 (.take 14 (.take 15 (.one 12 (.one 16 (.take 17 (.take 18 (.take 19 (.take 20 (.take 21 (.take 22 (.take 25 (.take 26 (.take 27 (.two 23 28 (.two 24 28 (.one 28 (.one 29 (.one 30 (.take 31 (.take 32 (.take 33 (.take 34 (.take 35 (.take 36 (.take 37 (.take 39 (.take 40 (.take 41 (.take 42 (.one 38 (.one 43 (.one 44 (.take 45 (.take 46 (.take 47 (.take 48 (.take 49 (.take 50 (.take 51 (.take 53 (.take 54 (.take 55 (.take 56 (.one 52 (.one 57 (.take 58 .done))))))))))))))))))))))))))))))) (.one 24 (.one 29 (.one 30 (.take 31 (.take 32 (.take 33 (.take 34 (.take 35 (.take 36 (.take 37 (.take 39 (.take 40 (.take 41 (.take 42 (.one 38 (.one 43 (.one 44 (.take 45 (.take 46 (.take 47 (.take 48 (.take 49 (.take 50 (.take 51 (.take 53 (.take 54 (.take 55 (.take 56 (.one 52 (.one 57 (.take 58 .done)))))))))))))))))))))))))))))))) (.one 23 (.one 24 (.one 29 (.one 30 (.take 31 (.take 32 (.take 33 (.take 34 (.take 35 (.take 36 (.take 37 (.take 39 (.take 40 (.take 41 (.take 42 (.one 38 (.one 43 (.one 44 (.take 45 (.take 46 (.take 47 (.take 48 (.take 49 (.take 50 (.take 51 (.take 53 (.take 54 (.take 55 (.take 56 (.one 52 (.one 57 (.take 58 .done))))))))))))))))))))))))))))))))))))))))))))))))))))))))))) (fun w' => rdI w' pq 0 = some x ∧ w'.cell? ⟨pq, 32, none⟩ = some (.slice P ps.length cP) ∧ rdI w' pa 0 = some a ∧ rdI w' (pa + 1) 0 = some b) (by kernel_rfl) rfl (by kernel_rfl) (by kernel_rfl) (by kernel_rfl) F0 (fun hA hF => ?_)
            refine wpAnyT_take (v := ?_) hA rfl (fun _ _ _ h => h) (Or.inl ⟨by rfl, ?_⟩) hF (fun hA => ?_)
            rotate_left
            · intro wS hSw; (try dsimp only at hSw); obtain ⟨s1, s2, s3, s4⟩ := hSw; first | (apply Eq.trans; apply ex_ld_id; exact rfl; exact rfl; assumption; with_reducible rfl) | (apply Eq.trans; apply ex_ld_arr; exact rfl; exact rfl; assumption; with_reducible rfl) | (apply Eq.trans; apply ex_bldR_at; exact rfl; exact rfl; exact rfl; with_reducible rfl) | (go_simp; try with_reducible rfl)
            try simp only [List.getElem_toArray, List.getElem_cons_zero, List.getElem_cons_succ, Act.put, List.setIfInBounds_toArray, List.set_cons_zero, List.set_cons_succ]
            refine wpAnyT_take (v := ?_) hA rfl (fun _ _ _ h => h) (Or.inl ⟨by rfl, ?_⟩) hF (fun hA => ?_)
            rotate_left
            · intro wS hSw; (try dsimp only at hSw); obtain ⟨s1, s2, s3, s4⟩ := hSw; first | (apply Eq.trans; apply ex_ld_id; exact rfl; exact rfl; assumption; with_reducible rfl) | (apply Eq.trans; apply ex_ld_arr; exact rfl; exact rfl; assumption; with_reducible rfl) | (apply Eq.trans; apply ex_bldR_at; exact rfl; exact rfl; exact rfl; with_reducible rfl) | (go_simp; try with_reducible rfl)
            try simp only [List.getElem_toArray, List.getElem_cons_zero, List.getElem_cons_succ, Act.put, List.setIfInBounds_toArray, List.set_cons_zero, List.set_cons_succ]
            refine wpAnyT_take (v := ?_) hA rfl (fun _ _ _ h => h) (Or.inl ⟨by rfl, ?_⟩) hF (fun hA => ?_)
            rotate_left
            · intro wS hSw; (try dsimp only at hSw); obtain ⟨s1, s2, s3, s4⟩ := hSw; first | (apply Eq.trans; apply ex_ld_id; exact rfl; exact rfl; assumption; with_reducible rfl) | (apply Eq.trans; apply ex_ld_arr; exact rfl; exact rfl; assumption; with_reducible rfl) | (apply Eq.trans; apply ex_bldR_at; exact rfl; exact rfl; exact rfl; with_reducible rfl) | (go_simp; try with_reducible rfl)
            try simp only [List.getElem_toArray, List.getElem_cons_zero, List.getElem_cons_succ, Act.put, List.setIfInBounds_toArray, List.set_cons_zero, List.set_cons_succ]
            refine wpAnyT_take (v := ?_) hA rfl (fun _ _ _ h => h) (Or.inl ⟨by rfl, ?_⟩) hF (fun hA => ?_)
            rotate_left
            · intro wS hSw; (try dsimp only at hSw); obtain ⟨s1, s2, s3, s4⟩ := hSw; first | (apply Eq.trans; apply ex_ld_id; exact rfl; exact rfl; assumption; with_reducible rfl) | (apply Eq.trans; apply ex_ld_arr; exact rfl; exact rfl; assumption; with_reducible rfl) | (apply Eq.trans; apply ex_bldR_at; exact rfl; exact rfl; exact rfl; with_reducible rfl) | (go_simp; try with_reducible rfl)
            try simp only [List.getElem_toArray, List.getElem_cons_zero, List.getElem_cons_succ, Act.put, List.setIfInBounds_toArray, List.set_cons_zero, List.set_cons_succ]
            refine wpAnyT_take (v := ?_) hA rfl (fun _ _ _ h => h) (Or.inl ⟨by rfl, ?_⟩) hF (fun hA => ?_)
            rotate_left
            · intro wS hSw; (try dsimp only at hSw); obtain ⟨s1, s2, s3, s4⟩ := hSw; first | (apply Eq.trans; apply ex_ld_id; exact rfl; exact rfl; assumption; with_reducible rfl) | (apply Eq.trans; apply ex_ld_arr; exact rfl; exact rfl; assumption; with_reducible rfl) | (apply Eq.trans; apply ex_bldR_at; exact rfl; exact rfl; exact rfl; with_reducible rfl) | (go_simp; try with_reducible rfl)
            try simp only [List.getElem_toArray, List.getElem_cons_zero, List.getElem_cons_succ, Act.put, List.setIfInBounds_toArray, List.set_cons_zero, List.set_cons_succ]
            refine wpAnyT_one hA rfl (fun K' hK => ?_)
            go_simp
            go_at_call 17
            refine (parents_any _ D Fd m.reverse (dq.fr0 fq) x).mono ?_
            rw [HPAR.out]
            rintro e u1 ⟨A6, c6, rfl, ho6, hu1⟩
            replace hF := keep _ _ hu1 hF
            refine hK.out _ _ hF (fun hA => ?_)
            clear hK K'
            have fu1 := fq.step0 hu1
            refine wpAnyT_one hA rfl (fun K' hK => ?_)
            go_simp
            go_at_call 16
            refine (sameids_any _ A6 P c6 cP _ _ ps ps rfl rfl (Sl.own ho6) (hPq.fr0 fu1) (by omega)).mono ?_
            rintro e u2 ⟨rfl, hu2⟩
            rw [show decide (ps = ps) = true by simp]
            replace hF := keep _ _ hu2 hF
            refine hK.out _ _ hF (fun hA => ?_)
            clear hK K'
            have fu2 := fu1.step0 hu2
            refine wpAnyT_take (v := ?_) hA rfl (fun _ _ _ h => h) (Or.inl ⟨by rfl, ?_⟩) hF (fun hA => ?_)
            rotate_left
            · intro wS hSw; (try dsimp only at hSw); obtain ⟨s1, s2, s3, s4⟩ := hSw; first | (apply Eq.trans; apply ex_ld_id; exact rfl; exact rfl; assumption; with_reducible rfl) | (apply Eq.trans; apply ex_ld_arr; exact rfl; exact rfl; assumption; with_reducible rfl) | (apply Eq.trans; apply ex_bldR_at; exact rfl; exact rfl; exact rfl; with_reducible rfl) | (go_simp; try with_reducible rfl)
            try simp only [List.getElem_toArray, List.getElem_cons_zero, List.getElem_cons_succ, Act.put, List.setIfInBounds_toArray, List.set_cons_zero, List.set_cons_succ]
            refine wpAnyT_take (v := ?_) hA rfl (fun _ _ _ h => h) (Or.inl ⟨by rfl, ?_⟩) hF (fun hA => ?_)
            rotate_left
            · intro wS hSw; (try dsimp only at hSw); obtain ⟨s1, s2, s3, s4⟩ := hSw; first | (apply Eq.trans; apply ex_ld_id; exact rfl; exact rfl; assumption; with_reducible rfl) | (apply Eq.trans; apply ex_ld_arr; exact rfl; exact rfl; assumption; with_reducible rfl) | (apply Eq.trans; apply ex_bldR_at; exact rfl; exact rfl; exact rfl; with_reducible rfl) | (go_simp; try with_reducible rfl)
            try simp only [List.getElem_toArray, List.getElem_cons_zero, List.getElem_cons_succ, Act.put, List.setIfInBounds_toArray, List.set_cons_zero, List.set_cons_succ]
            refine wpAnyT_take (v := ?_) hA rfl (fun _ _ _ h => h) (Or.inl ⟨by rfl, ?_⟩) hF (fun hA => ?_)
            rotate_left
            · intro wS hSw; (try dsimp only at hSw); obtain ⟨s1, s2, s3, s4⟩ := hSw; first | (apply Eq.trans; apply ex_ld_id; exact rfl; exact rfl; assumption; with_reducible rfl) | (apply Eq.trans; apply ex_ld_arr; exact rfl; exact rfl; assumption; with_reducible rfl) | (apply Eq.trans; apply ex_bldR_at; exact rfl; exact rfl; exact rfl; with_reducible rfl) | (go_simp; try with_reducible rfl)
            try simp only [List.getElem_toArray, List.getElem_cons_zero, List.getElem_cons_succ, Act.put, List.setIfInBounds_toArray, List.set_cons_zero, List.set_cons_succ]
            refine wpAnyT_take (v := ?_) hA rfl (fun _ _ _ h => h) (Or.inl ⟨by rfl, ?_⟩) hF (fun hA => ?_)
            rotate_left
            · intro wS hSw; (try dsimp only at hSw); obtain ⟨s1, s2, s3, s4⟩ := hSw; first | (apply Eq.trans; apply ex_ld_id; exact rfl; exact rfl; assumption; with_reducible rfl) | (apply Eq.trans; apply ex_ld_arr; exact rfl; exact rfl; assumption; with_reducible rfl) | (apply Eq.trans; apply ex_bldR_at; exact rfl; exact rfl; exact rfl; with_reducible rfl) | (go_simp; try with_reducible rfl)
            try simp only [List.getElem_toArray, List.getElem_cons_zero, List.getElem_cons_succ, Act.put, List.setIfInBounds_toArray, List.set_cons_zero, List.set_cons_succ]
            refine wpAnyT_take (v := ?_) hA rfl (fun _ _ _ h => h) (Or.inl ⟨by rfl, ?_⟩) hF (fun hA => ?_)
            rotate_left
            · intro wS hSw; (try dsimp only at hSw); obtain ⟨s1, s2, s3, s4⟩ := hSw; first | (apply Eq.trans; apply ex_ld_id; exact rfl; exact rfl; assumption; with_reducible rfl) | (apply Eq.trans; apply ex_ld_arr; exact rfl; exact rfl; assumption; with_reducible rfl) | (apply Eq.trans; apply ex_bldR_at; exact rfl; exact rfl; exact rfl; with_reducible rfl) | (go_simp; try with_reducible rfl)
            try simp only [List.getElem_toArray, List.getElem_cons_zero, List.getElem_cons_succ, Act.put, List.setIfInBounds_toArray, List.set_cons_zero, List.set_cons_succ]
            refine wpAnyT_take (v := ?_) hA rfl (fun _ _ _ h => h) (Or.inl ⟨by rfl, ?_⟩) hF (fun hA => ?_)
            rotate_left
            · intro wS hSw; (try dsimp only at hSw); obtain ⟨s1, s2, s3, s4⟩ := hSw; first | (apply Eq.trans; apply ex_ld_id; exact rfl; exact rfl; assumption; with_reducible rfl) | (apply Eq.trans; apply ex_ld_arr; exact rfl; exact rfl; assumption; with_reducible rfl) | (apply Eq.trans; apply ex_bldR_at; exact rfl; exact rfl; exact rfl; with_reducible rfl) | (go_simp; try with_reducible rfl)
            try simp only [List.getElem_toArray, List.getElem_cons_zero, List.getElem_cons_succ, Act.put, List.setIfInBounds_toArray, List.set_cons_zero, List.set_cons_succ]
            refine wpAnyT_take (v := ?_) hA rfl (fun _ _ _ h => h) (Or.inl ⟨by rfl, ?_⟩) hF (fun hA => ?_)
            rotate_left
            · intro wS hSw; (try dsimp only at hSw); obtain ⟨s1, s2, s3, s4⟩ := hSw; first | (apply Eq.trans; apply ex_ld_id; exact rfl; exact rfl; assumption; with_reducible rfl) | (apply Eq.trans; apply ex_ld_arr; exact rfl; exact rfl; assumption; with_reducible rfl) | (apply Eq.trans; apply ex_bldR_at; exact rfl; exact rfl; exact rfl; with_reducible rfl) | (go_simp; try with_reducible rfl)
            try simp only [List.getElem_toArray, List.getElem_cons_zero, List.getElem_cons_succ, Act.put, List.setIfInBounds_toArray, List.set_cons_zero, List.set_cons_succ]
            refine wpAnyT_take (v := ?_) hA rfl (fun _ _ _ h => h) (Or.inl ⟨by rfl, ?_⟩) hF (fun hA => ?_)
            rotate_left
            · intro wS hSw; (try dsimp only at hSw); obtain ⟨s1, s2, s3, s4⟩ := hSw; first | (apply Eq.trans; apply ex_ld_id; exact rfl; exact rfl; assumption; with_reducible rfl) | (apply Eq.trans; apply ex_ld_arr; exact rfl; exact rfl; assumption; with_reducible rfl) | (apply Eq.trans; apply ex_bldR_at; exact rfl; exact rfl; exact rfl; with_reducible rfl) | (go_simp; try with_reducible rfl)
            try simp only [List.getElem_toArray, List.getElem_cons_zero, List.getElem_cons_succ, Act.put, List.setIfInBounds_toArray, List.set_cons_zero, List.set_cons_succ]
            refine wpAnyT_one hA rfl (fun K' hK => ?_)
            rw [if_pos (by rfl)]
            go_simp
            go_at_call 18
            refine (depth_any _ D Fd m.reverse (dq.fr0 fu2) x).mono ?_
            rintro e u3 ⟨rfl, hu3⟩
            replace hF := keep _ _ hu3 hF
            refine hK.out _ _ hF (fun hA => ?_)
            clear hK K'
            have fu3 := fu2.step0 hu3
            refine wpAnyT_one hA rfl (fun K' hK => ?_)
            rw [if_pos (by rfl)]
            go_simp
            go_at_call 19
            refine (refDepth_any _ _ c _ m rfl (hRq.fr0 fu3) HOK.out (by omega) x).mono ?_
            rintro e u4 ⟨rfl, hu4⟩
            replace hF := keep _ _ hu4 hF
            refine hK.out _ _ hF (fun hA => ?_)
            clear hK K'
            have fu4 := fu3.step0 hu4
            clear ho6 hu1 hu2 hu3 hu4 fu1 fu2 fu3
            generalize depthG m.reverse x = dx
            have edx : ((dx : Int) != (dx : Int)) = false := by simp
            refine wpAnyT_take (v := ?_) hA rfl (fun _ _ _ h => h) (Or.inl ⟨by rfl, ?_⟩) hF (fun hA => ?_)
            rotate_left
            · intro wS hSw; (try dsimp only at hSw); obtain ⟨s1, s2, s3, s4⟩ := hSw; first | (apply Eq.trans; apply ex_ld_id; exact rfl; exact rfl; assumption; with_reducible rfl) | (apply Eq.trans; apply ex_ld_arr; exact rfl; exact rfl; assumption; with_reducible rfl) | (apply Eq.trans; apply ex_bldR_at; exact rfl; exact rfl; exact rfl; with_reducible rfl) | (go_simp; try with_reducible rfl)
            try simp only [List.getElem_toArray, List.getElem_cons_zero, List.getElem_cons_succ, Act.put, List.setIfInBounds_toArray, List.set_cons_zero, List.set_cons_succ]
            refine wpAnyT_take (v := ?_) hA rfl (fun _ _ _ h => h) (Or.inl ⟨by rfl, ?_⟩) hF (fun hA => ?_)
            rotate_left
            · intro wS hSw; (try dsimp only at hSw); obtain ⟨s1, s2, s3, s4⟩ := hSw; first | (apply Eq.trans; apply ex_ld_id; exact rfl; exact rfl; assumption; with_reducible rfl) | (apply Eq.trans; apply ex_ld_arr; exact rfl; exact rfl; assumption; with_reducible rfl) | (apply Eq.trans; apply ex_bldR_at; exact rfl; exact rfl; exact rfl; with_reducible rfl) | (go_simp; try with_reducible rfl)
            try simp only [List.getElem_toArray, List.getElem_cons_zero, List.getElem_cons_succ, Act.put, List.setIfInBounds_toArray, List.set_cons_zero, List.set_cons_succ]
            refine wpAnyT_take (v := ?_) hA rfl (fun _ _ _ h => h) (Or.inl ⟨by rfl, ?_⟩) hF (fun hA => ?_)
            rotate_left
            · intro wS hSw; (try dsimp only at hSw); obtain ⟨s1, s2, s3, s4⟩ := hSw; first | (apply Eq.trans; apply ex_ld_id; exact rfl; exact rfl; assumption; with_reducible rfl) | (apply Eq.trans; apply ex_ld_arr; exact rfl; exact rfl; assumption; with_reducible rfl) | (apply Eq.trans; apply ex_bldR_at; exact rfl; exact rfl; exact rfl; with_reducible rfl) | (go_simp; try with_reducible rfl)
            try simp only [List.getElem_toArray, List.getElem_cons_zero, List.getElem_cons_succ, Act.put, List.setIfInBounds_toArray, List.set_cons_zero, List.set_cons_succ]
            refine wpAnyT_take (v := ?_) hA rfl (fun _ _ _ h => h) (Or.inl ⟨by rfl, ?_⟩) hF (fun hA => ?_)
            rotate_left
            · intro wS hSw; (try dsimp only at hSw); obtain ⟨s1, s2, s3, s4⟩ := hSw; first | (apply Eq.trans; apply ex_ld_id; exact rfl; exact rfl; assumption; with_reducible rfl) | (apply Eq.trans; apply ex_ld_arr; exact rfl; exact rfl; assumption; with_reducible rfl) | (apply Eq.trans; apply ex_bldR_at; exact rfl; exact rfl; exact rfl; with_reducible rfl) | (go_simp; try with_reducible rfl)
            try simp only [List.getElem_toArray, List.getElem_cons_zero, List.getElem_cons_succ, Act.put, List.setIfInBounds_toArray, List.set_cons_zero, List.set_cons_succ]
            refine wpAnyT_take (v := ?_) hA rfl (fun _ _ _ h => h) (Or.inl ⟨by rfl, ?_⟩) hF (fun hA => ?_)
            rotate_left
            · intro wS hSw; (try dsimp only at hSw); obtain ⟨s1, s2, s3, s4⟩ := hSw; first | (apply Eq.trans; apply ex_ld_id; exact rfl; exact rfl; assumption; with_reducible rfl) | (apply Eq.trans; apply ex_ld_arr; exact rfl; exact rfl; assumption; with_reducible rfl) | (apply Eq.trans; apply ex_bldR_at; exact rfl; exact rfl; exact rfl; with_reducible rfl) | (go_simp; try with_reducible rfl)
            try simp only [List.getElem_toArray, List.getElem_cons_zero, List.getElem_cons_succ, Act.put, List.setIfInBounds_toArray, List.set_cons_zero, List.set_cons_succ]
            refine wpAnyT_take (v := ?_) hA rfl (fun _ _ _ h => h) (Or.inl ⟨by rfl, ?_⟩) hF (fun hA => ?_)
            rotate_left
            · intro wS hSw; (try dsimp only at hSw); obtain ⟨s1, s2, s3, s4⟩ := hSw; first | (apply Eq.trans; apply ex_ld_id; exact rfl; exact rfl; assumption; with_reducible rfl) | (apply Eq.trans; apply ex_ld_arr; exact rfl; exact rfl; assumption; with_reducible rfl) | (apply Eq.trans; apply ex_bldR_at; exact rfl; exact rfl; exact rfl; with_reducible rfl) | (go_simp; try with_reducible rfl)
            try simp only [List.getElem_toArray, List.getElem_cons_zero, List.getElem_cons_succ, Act.put, List.setIfInBounds_toArray, List.set_cons_zero, List.set_cons_succ]
            refine wpAnyT_take (v := ?_) hA rfl (fun _ _ _ h => h) (Or.inl ⟨by rfl, ?_⟩) hF (fun hA => ?_)
            rotate_left
            · intro wS hSw; (try dsimp only at hSw); obtain ⟨s1, s2, s3, s4⟩ := hSw; first | (apply Eq.trans; apply ex_ld_id; exact rfl; exact rfl; assumption; with_reducible rfl) | (apply Eq.trans; apply ex_ld_arr; exact rfl; exact rfl; assumption; with_reducible rfl) | (apply Eq.trans; apply ex_bldR_at; exact rfl; exact rfl; exact rfl; with_reducible rfl) | (go_simp; try with_reducible rfl)
            try simp only [List.getElem_toArray, List.getElem_cons_zero, List.getElem_cons_succ, Act.put, List.setIfInBounds_toArray, List.set_cons_zero, List.set_cons_succ]
            refine wpAnyT_take (v := ?_) hA rfl (fun _ _ _ h => h) (Or.inl ⟨by rfl, ?_⟩) hF (fun hA => ?_)
            rotate_left
            · intro wS hSw; (try dsimp only at hSw); obtain ⟨s1, s2, s3, s4⟩ := hSw; first | (apply Eq.trans; apply ex_ld_id; exact rfl; exact rfl; assumption; with_reducible rfl) | (apply Eq.trans; apply ex_ld_arr; exact rfl; exact rfl; assumption; with_reducible rfl) | (apply Eq.trans; apply ex_bldR_at; exact rfl; exact rfl; exact rfl; with_reducible rfl) | (go_simp; try with_reducible rfl)
            try simp only [List.getElem_toArray, List.getElem_cons_zero, List.getElem_cons_succ, Act.put, List.setIfInBounds_toArray, List.set_cons_zero, List.set_cons_succ]
            refine wpAnyT_take (v := ?_) hA rfl (fun _ _ _ h => h) (Or.inl ⟨by rfl, ?_⟩) hF (fun hA => ?_)
            rotate_left
            · intro wS hSw; (try dsimp only at hSw); obtain ⟨s1, s2, s3, s4⟩ := hSw; first | (apply Eq.trans; apply ex_ld_id; exact rfl; exact rfl; assumption; with_reducible rfl) | (apply Eq.trans; apply ex_ld_arr; exact rfl; exact rfl; assumption; with_reducible rfl) | (apply Eq.trans; apply ex_bldR_at; exact rfl; exact rfl; exact rfl; with_reducible rfl) | (go_simp; try with_reducible rfl)
            try simp only [List.getElem_toArray, List.getElem_cons_zero, List.getElem_cons_succ, Act.put, List.setIfInBounds_toArray, List.set_cons_zero, List.set_cons_succ]
            apply lift_T (F := fun q1 q2 v u => ∃ l A7 c7, v = .slice A7 l.length c7 ∧ Sl u A7 (idc l) ∧ Sl u (some ⟨q2, 0, none⟩) (idc [x]) ∧ (Rise (cfD m.reverse) l ∧ (∀ y, y ∈ l ↔ Reached m.reverse [x] y) ∧ l.length ≤ 1000000000) ∧ (rdI u pq 0 = some x ∧ u.cell? ⟨pq, 32, none⟩ = some (.slice P ps.length cP) ∧ rdI u pa 0 = some a ∧ rdI u (pa + 1) 0 = some b) ∧ Fr noB Wq u)
            · intro cont
              refine wpAnyT_two (i := 23) (j := 28) hA rfl rfl (fun K' hK => ?_) (fun K' hK => ?_)
              · rw [if_pos (by rfl)]
                refine step_runW _ _ (ex_bs1_at (x := x) rfl rfl) ?_
                have fA : Fr noB u4 (World.alloc u4 (rowo [x])) := (Fr.refl noB u4).alloc _
                have sA := sl_new u4 [x]
                replace hF := keep _ _ fA hF
                refine hK.out _ _ hF (fun hA => ?_)
                clear hK K'
                try simp only [List.getElem_toArray, List.getElem_cons_zero, List.getElem_cons_succ, Act.put, List.setIfInBounds_toArray, List.set_cons_zero, List.set_cons_succ]
                have f5 := fu4.step0 fA
                refine wpAnyT_two (i := 24) (j := 28) hA rfl rfl (fun K' hK => ?_) (fun K' hK => ?_)
                · rw [if_pos (by rfl)]
                  go_simp
                  go_at_call 20
                  refine (ancestors_any _ D Fd m.reverse (dq.fr0 f5) _ _ _ [x] rfl sA (by simp)).mono ?_
                  rintro e u7 ⟨l7, ⟨A7, c7, rfl, ho7, hu7⟩, hr7, hm7, hb7⟩
                  replace hF := keep _ _ hu7 hF
                  refine hK.out _ _ hF (fun hA => ?_)
                  clear hK K'
                  try simp only [List.getElem_toArray, List.getElem_cons_zero, List.getElem_cons_succ, Act.put, List.setIfInBounds_toArray, List.set_cons_zero, List.set_cons_succ]
                  refine wpAnyT_one hA rfl (fun K' hK => ?_)
                  rw [if_pos (by rfl)]
                  refine step_runW _ _ (ex_bsR1_at (x := x) rfl rfl) ?_
                  have fB : Fr noB u7 (World.alloc u7 (rowr [x])) := (Fr.refl noB u7).alloc _
                  have sB := sl_newR u7 [x]
                  replace hF := keep _ _ fB hF
                  refine hK.out _ _ hF (fun hA => ?_)
                  clear hK K'
                  try simp only [List.getElem_toArray, List.getElem_cons_zero, List.getElem_cons_succ, Act.put, List.setIfInBounds_toArray, List.set_cons_zero, List.set_cons_succ]
                  have s7 := (Sl.own ho7).fr0 fB
                  have f7 := (f5.step0 hu7).step0 fB
                  generalize u7.alloc (rowr [x]) = u8 at sB hF s7 f7 ⊢
                  generalize u7.heap.size = q2 at sB ⊢
                  generalize u4.heap.size = q1
                  generalize ev : Value.slice A7 l7.length c7 = v
                  exact cont q1 q2 v _ u8 ⟨l7, A7, c7, ev.symm, s7, sB, ⟨hr7, hm7, hb7⟩, hF, f7⟩ hA
                · rw [if_pos (by rfl)]
                  refine step_runW _ _ (ex_bsR1_at (x := x) rfl rfl) ?_
                  have fB : Fr noB (u4.alloc (rowo [x])) (World.alloc (u4.alloc (rowo [x])) (rowr [x])) := (Fr.refl noB (u4.alloc (rowo [x]))).alloc _
                  have sB := sl_newR (u4.alloc (rowo [x])) [x]
                  replace hF := keep _ _ fB hF
                  refine hK.out _ _ hF (fun hA => ?_)
                  clear hK K'
                  try simp only [List.getElem_toArray, List.getElem_cons_zero, List.getElem_cons_succ, Act.put, List.setIfInBounds_toArray, List.set_cons_zero, List.set_cons_succ]
                  have f6 := f5.step0 fB
                  refine wpAnyT_one hA rfl (fun K' hK => ?_)
                  rw [if_pos (by rfl)]
                  go_simp
                  go_at_call 20
                  refine (ancestors_any _ D Fd m.reverse (dq.fr0 f6) _ _ _ [x] rfl (sA.fr0 fB) (by simp)).mono ?_
                  rintro e u7 ⟨l7, ⟨A7, c7, rfl, ho7, hu7⟩, hr7, hm7, hb7⟩
                  replace hF := keep _ _ hu7 hF
                  refine hK.out _ _ hF (fun hA => ?_)
                  clear hK K'
                  try simp only [List.getElem_toArray, List.getElem_cons_zero, List.getElem_cons_succ, Act.put, List.setIfInBounds_toArray, List.set_cons_zero, List.set_cons_succ]
                  have s7 := Sl.own ho7
                  have sB7 := sB.fr0 hu7
                  have f7 := f6.step0 hu7
                  try rw [World.size_alloc] at sB7
                  try simp only [World.size_alloc]
                  generalize u4.heap.size + 1 = q2 at sB7 ⊢
                  generalize u4.heap.size = q1
                  generalize ev : Value.slice A7 l7.length c7 = v
                  exact cont q1 q2 v _ u7 ⟨l7, A7, c7, ev.symm, s7, sB7, ⟨hr7, hm7, hb7⟩, hF, f7⟩ hA
              · rw [if_pos (by rfl)]
                refine step_runW _ _ (ex_bsR1_at (x := x) rfl rfl) ?_
                have fB : Fr noB u4 (World.alloc u4 (rowr [x])) := (Fr.refl noB u4).alloc _
                have sB := sl_newR u4 [x]
                replace hF := keep _ _ fB hF
                refine hK.out _ _ hF (fun hA => ?_)
                clear hK K'
                try simp only [List.getElem_toArray, List.getElem_cons_zero, List.getElem_cons_succ, Act.put, List.setIfInBounds_toArray, List.set_cons_zero, List.set_cons_succ]
                have f5 := fu4.step0 fB
                refine wpAnyT_one hA rfl (fun K' hK => ?_)
                rw [if_pos (by rfl)]
                refine step_runW _ _ (ex_bs1_at (x := x) rfl rfl) ?_
                have fA : Fr noB (u4.alloc (rowr [x])) (World.alloc (u4.alloc (rowr [x])) (rowo [x])) := (Fr.refl noB (u4.alloc (rowr [x]))).alloc _
                have sA := sl_new (u4.alloc (rowr [x])) [x]
                replace hF := keep _ _ fA hF
                refine hK.out _ _ hF (fun hA => ?_)
                clear hK K'
                try simp only [List.getElem_toArray, List.getElem_cons_zero, List.getElem_cons_succ, Act.put, List.setIfInBounds_toArray, List.set_cons_zero, List.set_cons_succ]
                rw [World.size_alloc] at sA
                have f6 := f5.step0 fA
                refine wpAnyT_one hA rfl (fun K' hK => ?_)
                rw [if_pos (by rfl)]
                go_simp
                go_at_call 20
                refine (ancestors_any _ D Fd m.reverse (dq.fr0 f6) _ _ _ [x] rfl sA (by simp)).mono ?_
                rintro e u7 ⟨l7, ⟨A7, c7, rfl, ho7, hu7⟩, hr7, hm7, hb7⟩
                replace hF := keep _ _ hu7 hF
                refine hK.out _ _ hF (fun hA => ?_)
                clear hK K'
                try simp only [List.getElem_toArray, List.getElem_cons_zero, List.getElem_cons_succ, Act.put, List.setIfInBounds_toArray, List.set_cons_zero, List.set_cons_succ]
                have s7 := Sl.own ho7
                have sB7 := (sB.fr0 fA).fr0 hu7
                have f7 := f6.step0 hu7
                try simp only [World.size_alloc]
                generalize u4.heap.size + 1 = q1
                generalize u4.heap.size = q2 at sB7 ⊢
                generalize ev : Value.slice A7 l7.length c7 = v
                exact cont q1 q2 v _ u7 ⟨l7, A7, c7, ev.symm, s7, sB7, ⟨hr7, hm7, hb7⟩, hF, f7⟩ hA
            clear hA hF fu4 F0
            rintro q1 q2 v L u ⟨l, A7, c7, rfl, s7, sB, ⟨hr7, hm7, hb7⟩, hF, fu⟩ hA
            refine wpAnyT_one hA rfl (fun K' hK => ?_)
            rw [if_pos (by rfl)]
            go_simp
            go_at_call 21
            refine (refAnc_any _ _ c _ m rfl (hRq.fr0 fu) HOK.out (by omega) _ _ _ [x] rfl sB (by simp)).mono ?_
            rintro e u5 ⟨l5, A8, c8, rfl, s8, ⟨hr8, hm8⟩, hb8, hu5⟩
            have el : l5 = l := rise_eq (swoD _) hr8 hr7 (fun y => (hm8 y).trans (hm7 y).symm)
            subst el
            replace hF := keep _ _ hu5 hF
            refine hK.out _ _ hF (fun hA => ?_)
            clear hK K'
            as_aux_lemma =>
            have fu5 := fu.step0 hu5
            refine wpAnyT_one hA rfl (fun K' hK => ?_)
            rw [if_pos (by rfl)]
            go_simp
            go_at_call 16
            refine (sameids_any _ A7 A8 c7 c8 _ _ l5 l5 rfl rfl (s7.fr0 hu5) s8 (by omega)).mono ?_
            rintro e u6 ⟨rfl, hu6⟩
            rw [show decide (l5 = l5) = true by simp]
            replace hF := keep _ _ hu6 hF
            refine hK.out _ _ hF (fun hA => ?_)
            clear hK K'
            as_aux_lemma =>
            have fu6 := fu5.step0 hu6
            clear hr7 hm7 hr8 hm8 s7 s8 sB hu5 hu6 fu fu5
            refine wpAnyT_take (v := ?_) hA rfl (fun _ _ _ h => h) (Or.inl ⟨by rfl, ?_⟩) hF (fun hA => ?_)
            rotate_left
            · intro wS hSw; (try dsimp only at hSw); obtain ⟨s1, s2, s3, s4⟩ := hSw; first | (apply Eq.trans; apply ex_ld_id; exact rfl; exact rfl; assumption; with_reducible rfl) | (apply Eq.trans; apply ex_ld_arr; exact rfl; exact rfl; assumption; with_reducible rfl) | (apply Eq.trans; apply ex_bldR_at; exact rfl; exact rfl; exact rfl; with_reducible rfl) | (go_simp; try with_reducible rfl)
            try simp only [List.getElem_toArray, List.getElem_cons_zero, List.getElem_cons_succ, Act.put, List.setIfInBounds_toArray, List.set_cons_zero, List.set_cons_succ]
            refine wpAnyT_take (v := ?_) hA rfl (fun _ _ _ h => h) (Or.inl ⟨by rfl, ?_⟩) hF (fun hA => ?_)
            rotate_left
            · intro wS hSw; (try dsimp only at hSw); obtain ⟨s1, s2, s3, s4⟩ := hSw; first | (apply Eq.trans; apply ex_ld_id; exact rfl; exact rfl; assumption; with_reducible rfl) | (apply Eq.trans; apply ex_ld_arr; exact rfl; exact rfl; assumption; with_reducible rfl) | (apply Eq.trans; apply ex_bldR_at; exact rfl; exact rfl; exact rfl; with_reducible rfl) | (go_simp; try with_reducible rfl)
            try simp only [List.getElem_toArray, List.getElem_cons_zero, List.getElem_cons_succ, Act.put, List.setIfInBounds_toArray, List.set_cons_zero, List.set_cons_succ]
            refine wpAnyT_take (v := ?_) hA rfl (fun _ _ _ h => h) (Or.inl ⟨by rfl, ?_⟩) hF (fun hA => ?_)
            rotate_left
            · intro wS hSw; (try dsimp only at hSw); obtain ⟨s1, s2, s3, s4⟩ := hSw; first | (apply Eq.trans; apply ex_ld_id; exact rfl; exact rfl; assumption; with_reducible rfl) | (apply Eq.trans; apply ex_ld_arr; exact rfl; exact rfl; assumption; with_reducible rfl) | (apply Eq.trans; apply ex_bldR_at; exact rfl; exact rfl; exact rfl; with_reducible rfl) | (go_simp; try with_reducible rfl)
            try simp only [List.getElem_toArray, List.getElem_cons_zero, List.getElem_cons_succ, Act.put, List.setIfInBounds_toArray, List.set_cons_zero, List.set_cons_succ]
            refine wpAnyT_take (v := ?_) hA rfl (fun _ _ _ h => h) (Or.inl ⟨by rfl, ?_⟩) hF (fun hA => ?_)
            rotate_left
            · intro wS hSw; (try dsimp only at hSw); obtain ⟨s1, s2, s3, s4⟩ := hSw; first | (apply Eq.trans; apply ex_ld_id; exact rfl; exact rfl; assumption; with_reducible rfl) | (apply Eq.trans; apply ex_ld_arr; exact rfl; exact rfl; assumption; with_reducible rfl) | (apply Eq.trans; apply ex_bldR_at; exact rfl; exact rfl; exact rfl; with_reducible rfl) | (go_simp; try with_reducible rfl)
            try simp only [List.getElem_toArray, List.getElem_cons_zero, List.getElem_cons_succ, Act.put, List.setIfInBounds_toArray, List.set_cons_zero, List.set_cons_succ]
            refine wpAnyT_take (v := ?_) hA rfl (fun _ _ _ h => h) (Or.inl ⟨by rfl, ?_⟩) hF (fun hA => ?_)
            rotate_left
            · intro wS hSw; (try dsimp only at hSw); obtain ⟨s1, s2, s3, s4⟩ := hSw; first | (apply Eq.trans; apply ex_ld_id; exact rfl; exact rfl; assumption; with_reducible rfl) | (apply Eq.trans; apply ex_ld_arr; exact rfl; exact rfl; assumption; with_reducible rfl) | (apply Eq.trans; apply ex_bldR_at; exact rfl; exact rfl; exact rfl; with_reducible rfl) | (go_simp; try with_reducible rfl)
            try simp only [List.getElem_toArray, List.getElem_cons_zero, List.getElem_cons_succ, Act.put, List.setIfInBounds_toArray, List.set_cons_zero, List.set_cons_succ]
            refine wpAnyT_take (v := ?_) hA rfl (fun _ _ _ h => h) (Or.inl ⟨by rfl, ?_⟩) hF (fun hA => ?_)
            rotate_left
            · intro wS hSw; (try dsimp only at hSw); obtain ⟨s1, s2, s3, s4⟩ := hSw; first | (apply Eq.trans; apply ex_ld_id; exact rfl; exact rfl; assumption; with_reducible rfl) | (apply Eq.trans; apply ex_ld_arr; exact rfl; exact rfl; assumption; with_reducible rfl) | (apply Eq.trans; apply ex_bldR_at; exact rfl; exact rfl; exact rfl; with_reducible rfl) | (go_simp; try with_reducible rfl)
            try simp only [List.getElem_toArray, List.getElem_cons_zero, List.getElem_cons_succ, Act.put, List.setIfInBounds_toArray, List.set_cons_zero, List.set_cons_succ]
            refine wpAnyT_take (v := ?_) hA rfl (fun _ _ _ h => h) (Or.inl ⟨by rfl, ?_⟩) hF (fun hA => ?_)
            rotate_left
            · intro wS hSw; (try dsimp only at hSw); obtain ⟨s1, s2, s3, s4⟩ := hSw; first | (apply Eq.trans; apply ex_ld_id; exact rfl; exact rfl; assumption; with_reducible rfl) | (apply Eq.trans; apply ex_ld_arr; exact rfl; exact rfl; assumption; with_reducible rfl) | (apply Eq.trans; apply ex_bldR_at; exact rfl; exact rfl; exact rfl; with_reducible rfl) | (go_simp; try with_reducible rfl)
            try simp only [List.getElem_toArray, List.getElem_cons_zero, List.getElem_cons_succ, Act.put, List.setIfInBounds_toArray, List.set_cons_zero, List.set_cons_succ]
            refine wpAnyT_take (v := ?_) hA rfl (fun _ _ _ h => h) (Or.inl ⟨by rfl, ?_⟩) hF (fun hA => ?_)
            rotate_left
            · intro wS hSw; (try dsimp only at hSw); obtain ⟨s1, s2, s3, s4⟩ := hSw; first | (apply Eq.trans; apply ex_ld_id; exact rfl; exact rfl; assumption; with_reducible rfl) | (apply Eq.trans; apply ex_ld_arr; exact rfl; exact rfl; assumption; with_reducible rfl) | (apply Eq.trans; apply ex_bldR_at; exact rfl; exact rfl; exact rfl; with_reducible rfl) | (go_simp; try with_reducible rfl)
            try simp only [List.getElem_toArray, List.getElem_cons_zero, List.getElem_cons_succ, Act.put, List.setIfInBounds_toArray, List.set_cons_zero, List.set_cons_succ]
            refine wpAnyT_take (v := ?_) hA rfl (fun _ _ _ h => h) (Or.inl ⟨by rfl, ?_⟩) hF (fun hA => ?_)
            rotate_left
            · intro wS hSw; (try dsimp only at hSw); obtain ⟨s1, s2, s3, s4⟩ := hSw; first | (apply Eq.trans; apply ex_ld_id; exact rfl; exact rfl; assumption; with_reducible rfl) | (apply Eq.trans; apply ex_ld_arr; exact rfl; exact rfl; assumption; with_reducible rfl) | (apply Eq.trans; apply ex_bldR_at; exact rfl; exact rfl; exact rfl; with_reducible rfl) | (go_simp; try with_reducible rfl)
            try simp only [List.getElem_toArray, List.getElem_cons_zero, List.getElem_cons_succ, Act.put, List.setIfInBounds_toArray, List.set_cons_zero, List.set_cons_succ]
            refine wpAnyT_take (v := ?_) hA rfl (fun _ _ _ h => h) (Or.inl ⟨by rfl, ?_⟩) hF (fun hA => ?_)
            rotate_left
            · intro wS hSw; (try dsimp only at hSw); obtain ⟨s1, s2, s3, s4⟩ := hSw; first | (apply Eq.trans; apply ex_ld_id; exact rfl; exact rfl; assumption; with_reducible rfl) | (apply Eq.trans; apply ex_ld_arr; exact rfl; exact rfl; assumption; with_reducible rfl) | (apply Eq.trans; apply ex_bldR_at; exact rfl; exact rfl; exact rfl; with_reducible rfl) | (go_simp; try with_reducible rfl)
            try simp only [List.getElem_toArray, List.getElem_cons_zero, List.getElem_cons_succ, Act.put, List.setIfInBounds_toArray, List.set_cons_zero, List.set_cons_succ]
            refine wpAnyT_take (v := ?_) hA rfl (fun _ _ _ h => h) (Or.inl ⟨by rfl, ?_⟩) hF (fun hA => ?_)
            rotate_left
            · intro wS hSw; (try dsimp only at hSw); obtain ⟨s1, s2, s3, s4⟩ := hSw; first | (apply Eq.trans; apply ex_ld_id; exact rfl; exact rfl; assumption; with_reducible rfl) | (apply Eq.trans; apply ex_ld_arr; exact rfl; exact rfl; assumption; with_reducible rfl) | (apply Eq.trans; apply ex_bldR_at; exact rfl; exact rfl; exact rfl; with_reducible rfl) | (go_simp; try with_reducible rfl)
            try simp only [List.getElem_toArray, List.getElem_cons_zero, List.getElem_cons_succ, Act.put, List.setIfInBounds_toArray, List.set_cons_zero, List.set_cons_succ]
            refine wpAnyT_one hA rfl (fun K' hK => ?_)
            rw [if_pos (by rfl)]
            go_simp
            go_at_call 22
            refine (bases_any _ D Fd m.reverse (dq.fr0 fu6) x b).mono ?_
            rintro e u7 ⟨lb, ⟨A9, c9, rfl, ho9, hu7⟩, hr9, hm9, hb9⟩
            have hm9' : ∀ z, z ∈ lb ↔ BaseOf m.reverse x b z := hm9
            clear hm9
            replace hF := keep _ _ hu7 hF
            refine hK.out _ _ hF (fun hA => ?_)
            clear hK K'
            as_aux_lemma =>
            have fu7 := fu6.step0 hu7
            refine wpAnyT_one hA rfl (fun K' hK => ?_)
            rw [if_pos (by rfl)]
            go_simp
            go_at_call 23
            refine (refBases_any _ _ c _ m rfl (hRq.fr0 fu7) HOK.out (by omega) x b).mono ?_
            rintro e u8 ⟨lb2, A10, c10, rfl, s10, ⟨hr10, hm10⟩, hb10, hu8⟩
            have el : lb2 = lb := rise_eq swoI hr10 hr9 (fun y => (hm10 y).trans (hm9' y).symm)
            subst el
            replace hF := keep _ _ hu8 hF
            refine hK.out _ _ hF (fun hA => ?_)
            clear hK K'
            as_aux_lemma =>
            have fu8 := fu7.step0 hu8
            refine wpAnyT_one hA rfl (fun K' hK => ?_)
            rw [if_pos (by rfl)]
            go_simp
            go_at_call 16
            refine (sameids_any _ A9 A10 c9 c10 _ _ lb2 lb2 rfl rfl ((Sl.own ho9).fr0 hu8) s10 (by omega)).mono ?_
            rintro e u9 ⟨rfl, hu9⟩
            rw [show decide (lb2 = lb2) = true by simp]
            replace hF := keep _ _ hu9 hF
            refine hK.out _ _ hF (fun hA => ?_)
            clear hK K'
            as_aux_lemma =>
            have fu9 := fu8.step0 hu9
            clear hr9 hm9' hr10 hm10 s10 ho9 hu7 hu8 hu9 fu7 fu8
            refine wpAnyT_take (v := ?_) hA rfl (fun _ _ _ h => h) (Or.inl ⟨by rfl, ?_⟩) hF (fun hA => ?_)
            rotate_left
            · intro wS hSw; (try dsimp only at hSw); obtain ⟨s1, s2, s3, s4⟩ := hSw; first | (apply Eq.trans; apply ex_ld_id; exact rfl; exact rfl; assumption; with_reducible rfl) | (apply Eq.trans; apply ex_ld_arr; exact rfl; exact rfl; assumption; with_reducible rfl) | (apply Eq.trans; apply ex_bldR_at; exact rfl; exact rfl; exact rfl; with_reducible rfl) | (go_simp; try with_reducible rfl)
            try simp only [List.getElem_toArray, List.getElem_cons_zero, List.getElem_cons_succ, Act.put, List.setIfInBounds_toArray, List.set_cons_zero, List.set_cons_succ]
            refine wpAnyT_take (v := ?_) hA rfl (fun _ _ _ h => h) (Or.inl ⟨by rfl, ?_⟩) hF (fun hA => ?_)
            rotate_left
            · intro wS hSw; (try dsimp only at hSw); obtain ⟨s1, s2, s3, s4⟩ := hSw; first | (apply Eq.trans; apply ex_ld_id; exact rfl; exact rfl; assumption; with_reducible rfl) | (apply Eq.trans; apply ex_ld_arr; exact rfl; exact rfl; assumption; with_reducible rfl) | (apply Eq.trans; apply ex_bldR_at; exact rfl; exact rfl; exact rfl; with_reducible rfl) | (go_simp; try with_reducible rfl)
            try simp only [List.getElem_toArray, List.getElem_cons_zero, List.getElem_cons_succ, Act.put, List.setIfInBounds_toArray, List.set_cons_zero, List.set_cons_succ]
            refine wpAnyT_take (v := ?_) hA rfl (fun _ _ _ h => h) (Or.inl ⟨by rfl, ?_⟩) hF (fun hA => ?_)
            rotate_left
            · intro wS hSw; (try dsimp only at hSw); obtain ⟨s1, s2, s3, s4⟩ := hSw; first | (apply Eq.trans; apply ex_ld_id; exact rfl; exact rfl; assumption; with_reducible rfl) | (apply Eq.trans; apply ex_ld_arr; exact rfl; exact rfl; assumption; with_reducible rfl) | (apply Eq.trans; apply ex_bldR_at; exact rfl; exact rfl; exact rfl; with_reducible rfl) | (go_simp; try with_reducible rfl)
            try simp only [List.getElem_toArray, List.getElem_cons_zero, List.getElem_cons_succ, Act.put, List.setIfInBounds_toArray, List.set_cons_zero, List.set_cons_succ]
            refine wpAnyT_take (v := ?_) hA rfl (fun _ _ _ h => h) (Or.inl ⟨by rfl, ?_⟩) hF (fun hA => ?_)
            rotate_left
            · intro wS hSw; (try dsimp only at hSw); obtain ⟨s1, s2, s3, s4⟩ := hSw; first | (apply Eq.trans; apply ex_ld_id; exact rfl; exact rfl; assumption; with_reducible rfl) | (apply Eq.trans; apply ex_ld_arr; exact rfl; exact rfl; assumption; with_reducible rfl) | (apply Eq.trans; apply ex_bldR_at; exact rfl; exact rfl; exact rfl; with_reducible rfl) | (go_simp; try with_reducible rfl)
            try simp only [List.getElem_toArray, List.getElem_cons_zero, List.getElem_cons_succ, Act.put, List.setIfInBounds_toArray, List.set_cons_zero, List.set_cons_succ]
            refine wpAnyT_take (v := ?_) hA rfl (fun _ _ _ h => h) (Or.inl ⟨by rfl, ?_⟩) hF (fun hA => ?_)
            rotate_left
            · intro wS hSw; (try dsimp only at hSw); obtain ⟨s1, s2, s3, s4⟩ := hSw; first | (apply Eq.trans; apply ex_ld_id; exact rfl; exact rfl; assumption; with_reducible rfl) | (apply Eq.trans; apply ex_ld_arr; exact rfl; exact rfl; assumption; with_reducible rfl) | (apply Eq.trans; apply ex_bldR_at; exact rfl; exact rfl; exact rfl; with_reducible rfl) | (go_simp; try with_reducible rfl)
            try simp only [List.getElem_toArray, List.getElem_cons_zero, List.getElem_cons_succ, Act.put, List.setIfInBounds_toArray, List.set_cons_zero, List.set_cons_succ]
            refine wpAnyT_take (v := ?_) hA rfl (fun _ _ _ h => h) (Or.inl ⟨by rfl, ?_⟩) hF (fun hA => ?_)
            rotate_left
            · intro wS hSw; (try dsimp only at hSw); obtain ⟨s1, s2, s3, s4⟩ := hSw; first | (apply Eq.trans; apply ex_ld_id; exact rfl; exact rfl; assumption; with_reducible rfl) | (apply Eq.trans; apply ex_ld_arr; exact rfl; exact rfl; assumption; with_reducible rfl) | (apply Eq.trans; apply ex_bldR_at; exact rfl; exact rfl; exact rfl; with_reducible rfl) | (go_simp; try with_reducible rfl)
            try simp only [List.getElem_toArray, List.getElem_cons_zero, List.getElem_cons_succ, Act.put, List.setIfInBounds_toArray, List.set_cons_zero, List.set_cons_succ]
            refine wpAnyT_take (v := ?_) hA rfl (fun _ _ _ h => h) (Or.inl ⟨by rfl, ?_⟩) hF (fun hA => ?_)
            rotate_left
            · intro wS hSw; (try dsimp only at hSw); obtain ⟨s1, s2, s3, s4⟩ := hSw; first | (apply Eq.trans; apply ex_ld_id; exact rfl; exact rfl; assumption; with_reducible rfl) | (apply Eq.trans; apply ex_ld_arr; exact rfl; exact rfl; assumption; with_reducible rfl) | (apply Eq.trans; apply ex_bldR_at; exact rfl; exact rfl; exact rfl; with_reducible rfl) | (go_simp; try with_reducible rfl)
            try simp only [List.getElem_toArray, List.getElem_cons_zero, List.getElem_cons_succ, Act.put, List.setIfInBounds_toArray, List.set_cons_zero, List.set_cons_succ]
            refine wpAnyT_take (v := ?_) hA rfl (fun _ _ _ h => h) (Or.inl ⟨by rfl, ?_⟩) hF (fun hA => ?_)
            rotate_left
            · intro wS hSw; (try dsimp only at hSw); obtain ⟨s1, s2, s3, s4⟩ := hSw; first | (apply Eq.trans; apply ex_ld_id; exact rfl; exact rfl; assumption; with_reducible rfl) | (apply Eq.trans; apply ex_ld_arr; exact rfl; exact rfl; assumption; with_reducible rfl) | (apply Eq.trans; apply ex_bldR_at; exact rfl; exact rfl; exact rfl; with_reducible rfl) | (go_simp; try with_reducible rfl)
            try simp only [List.getElem_toArray, List.getElem_cons_zero, List.getElem_cons_succ, Act.put, List.setIfInBounds_toArray, List.set_cons_zero, List.set_cons_succ]
            refine wpAnyT_take (v := ?_) hA rfl (fun _ _ _ h => h) (Or.inl ⟨by rfl, ?_⟩) hF (fun hA => ?_)
            rotate_left
            · intro wS hSw; (try dsimp only at hSw); obtain ⟨s1, s2, s3, s4⟩ := hSw; first | (apply Eq.trans; apply ex_ld_id; exact rfl; exact rfl; assumption; with_reducible rfl) | (apply Eq.trans; apply ex_ld_arr; exact rfl; exact rfl; assumption; with_reducible rfl) | (apply Eq.trans; apply ex_bldR_at; exact rfl; exact rfl; exact rfl; with_reducible rfl) | (go_simp; try with_reducible rfl)
            try simp only [List.getElem_toArray, List.getElem_cons_zero, List.getElem_cons_succ, Act.put, List.setIfInBounds_toArray, List.set_cons_zero, List.set_cons_succ]
            refine wpAnyT_take (v := ?_) hA rfl (fun _ _ _ h => h) (Or.inl ⟨by rfl, ?_⟩) hF (fun hA => ?_)
            rotate_left
            · intro wS hSw; (try dsimp only at hSw); obtain ⟨s1, s2, s3, s4⟩ := hSw; first | (apply Eq.trans; apply ex_ld_id; exact rfl; exact rfl; assumption; with_reducible rfl) | (apply Eq.trans; apply ex_ld_arr; exact rfl; exact rfl; assumption; with_reducible rfl) | (apply Eq.trans; apply ex_bldR_at; exact rfl; exact rfl; exact rfl; with_reducible rfl) | (go_simp; try with_reducible rfl)
            try simp only [List.getElem_toArray, List.getElem_cons_zero, List.getElem_cons_succ, Act.put, List.setIfInBounds_toArray, List.set_cons_zero, List.set_cons_succ]
            refine wpAnyT_take (v := ?_) hA rfl (fun _ _ _ h => h) (Or.inl ⟨by rfl, ?_⟩) hF (fun hA => ?_)
            rotate_left
            · intro wS hSw; (try dsimp only at hSw); obtain ⟨s1, s2, s3, s4⟩ := hSw; first | (apply Eq.trans; apply ex_ld_id; exact rfl; exact rfl; assumption; with_reducible rfl) | (apply Eq.trans; apply ex_ld_arr; exact rfl; exact rfl; assumption; with_reducible rfl) | (apply Eq.trans; apply ex_bldR_at; exact rfl; exact rfl; exact rfl; with_reducible rfl) | (go_simp; try with_reducible rfl)
            try simp only [List.getElem_toArray, List.getElem_cons_zero, List.getElem_cons_succ, Act.put, List.setIfInBounds_toArray, List.set_cons_zero, List.set_cons_succ]
            refine wpAnyT_one hA rfl (fun K' hK => ?_)
            rw [if_pos (by rfl)]
            go_simp
            go_at_call 24
            refine (reaches_any _ D Fd m.reverse (dq.fr0 fu9) x a).mono ?_
            rintro e u10 ⟨rfl, hu10⟩
            replace hF := keep _ _ hu10 hF
            refine hK.out _ _ hF (fun hA => ?_)
            clear hK K'
            as_aux_lemma =>
            have fu10 := fu9.step0 hu10
            refine wpAnyT_one hA rfl (fun K' hK => ?_)
            rw [if_pos (by rfl)]
            go_simp
            go_at_call 25
            refine (refReaches_any _ _ c _ m rfl (hRq.fr0 fu10) HOK.out (by omega) x a).mono ?_
            rintro e u11 ⟨rfl, hu11⟩
            replace hF := keep _ _ hu11 hF
            refine hK.out _ _ hF (fun hA => ?_)
            clear hK K'
            as_aux_lemma =>
            have fu11 := fu10.step0 hu11
            generalize ancG m.reverse x a = rb
            have erb : (rb != rb) = false := by simp
            refine wpAnyT_take (v := ?_) hA rfl (fun _ _ _ h => h) (Or.inl ⟨by rfl, ?_⟩) hF (fun hA => ?_)
            rotate_left
            · intro wS hSw; (try dsimp only at hSw); obtain ⟨s1, s2, s3, s4⟩ := hSw; first | (apply Eq.trans; apply ex_ld_id; exact rfl; exact rfl; assumption; with_reducible rfl) | (apply Eq.trans; apply ex_ld_arr; exact rfl; exact rfl; assumption; with_reducible rfl) | (apply Eq.trans; apply ex_bldR_at; exact rfl; exact rfl; exact rfl; with_reducible rfl) | (go_simp; try with_reducible rfl)
            try simp only [List.getElem_toArray, List.getElem_cons_zero, List.getElem_cons_succ, Act.put, List.setIfInBounds_toArray, List.set_cons_zero, List.set_cons_succ]
            refine wpAnyT_end hA rfl ?_
            simp only [List.drop_succ_cons, List.drop_zero]
            clear hF
            go_wp2_with fail
            go_roundg (m.length - (k + 1))
            case measure => omega
            case rel => exact ⟨k + 1, by simp, rfl, by omega, hfb.step0 fu11⟩
          · have ek : k = m.length := by omega
            subst ek
            have fq := hf.drew
            have keep : ∀ w' w'' : World, Fr noB w' w'' → (rdI w' pa 0 = some a ∧ rdI w' (pa + 1) 0 = some b) → (rdI w'' pa 0 = some a ∧ rdI w'' (pa + 1) 0 = some b) := fun w' w'' f h =>
              ⟨rdI_fr h.1 (rdI_lt h.1) f (by simp [noB]), rdI_fr h.2 (rdI_lt h.2) f (by simp [noB])⟩
            have F0 := keep _ _ fq ⟨va, vb⟩
            go_wp2_with fail
            refine wp_region_T 38 39 [⟨44601490397061246283071436545296723011960832, 128, 0⟩, ⟨89202980794122492566142873090593446023921664, 44601490397061246283071436545296723011960832, 1⟩, ⟨178405961588244985132285746181186892047843328, 256, 0⟩, ⟨356811923176489970264571492362373784095686656, 178405961588244985132285746181186892047843328, 6⟩, ⟨713623846352979940529142984724747568191373312, 446014903970612462830714365452967230119608320, 10⟩, ⟨1427247692705959881058285969449495136382746624, 713623846352979940529142984724747568191373312, 16⟩, ⟨2854495385411919762116571938898990272765493248, 1427247692705959881058285969449495136382746752, 32⟩, ⟨5708990770823839524233143877797980545530986496, 1427247692705959881058285969449495136382746640, 32⟩, ⟨11417981541647679048466287755595961091061972992, 1427247692705959881058285969449495136382746656, 32⟩, ⟨22835963083295358096932575511191922182123945984, 18554220005177478453757717602843436772975706112, 416⟩, ⟨45671926166590716193865151022383844364247891968, 27117706161413237740107433419540407591272185856, 608⟩, ⟨91343852333181432387730302044767688728495783936, 1427247692705959881058285969449495136382746880, 32⟩, ⟨182687704666362864775460604089535377456991567872, 1427247692705959881058285969449495136382746640, 32⟩, ⟨365375409332725729550921208179070754913983135744, 1427247692705959881058285969449495136382746656, 32⟩, ⟨730750818665451459101842416358141509827966271488, 549490361691794554207440098238055627507357450240, 12320⟩, ⟨1461501637330902918203684832716283019655932542976, 823521918691338851370631004372358693692844802048, 19488⟩, ⟨2923003274661805836407369665432566039311865085952, 1508600811190199594278608269708116359156563181568, 33824⟩, ⟨5846006549323611672814739330865132078623730171904, 2924430522354511796288427951402015534448247832576, 65568⟩, ⟨11692013098647223345629478661730264157247460343808, 5846006549323611672814739330865132078623730171904, 196608⟩, ⟨23384026197294446691258957323460528314494920687616, 11692013098647223345629478661730264157247460343936, 262144⟩, ⟨46768052394588893382517914646921056628989841375232, 11692013098647223345629478661730264157247460343824, 262144⟩, ⟨93536104789177786765035829293842113257979682750464, 81844091690530563419406350632111849100732222406656, 1835008⟩, ⟨187072209578355573530071658587684226515959365500928, 11692013098647223345629478661730264157247460344064, 262144⟩, ⟨374144419156711147060143317175368453031918731001856, 11692013098647223345629478661730264157247460343824, 262144⟩, ⟨748288838313422294120286634350736906063837462003712, 572908641833713943935844454424782943705125556846592, 14942208⟩, ⟨1496577676626844588240573268701473812127674924007424, 853516956201247304230951942306309283479064605097984, 19136512⟩, ⟨2993155353253689176481146537402947624255349848014848, 1508269689725491811586202747363204076284922384351232, 33816576⟩, ⟨5986310706507378352962293074805895248510699696029696, 2993155353253689176481146537402947624255349848014848, 83886080⟩, ⟨11972621413014756705924586149611790497021399392059392, 5986310706507378352962293074805895248510699696029824, 134217728⟩, ⟨23945242826029513411849172299223580994042798784118784, 5986310706507378352962293074805895248510699696029712, 134217728⟩, ⟨47890485652059026823698344598447161988085597568237568, 5986310706507378352962293074805895248510699696029728, 134217728⟩, ⟨95780971304118053647396689196894323976171195136475136, 89794660597610675294434396122088428727660495440445440, 2013265920⟩, ⟨191561942608236107294793378393788647952342390272950272, 5986310706507378352962293074805895248510699696029952, 134217728⟩, ⟨383123885216472214589586756787577295904684780545900544, 5986310706507378352962293074805895248510699696029712, 134217728⟩, ⟨766247770432944429179173513575154591809369561091801088, 5986310706507378352962293074805895248510699696029728, 134217728⟩, ⟨1532495540865888858358347027150309183618739122183602176, 1346919908964160129416515941831326430914907431606681600, 32346472448⟩, ⟨3064991081731777716716694054300618367237478244367204352, 1634262822876514290358706009422009402843421017016107008, 36641439744⟩, ⟨6129982163463555433433388108601236734474956488734408704, 3070977392438285095069656347375424262485988944063234048, 68853694464⟩, ⟨64, 6129982163463555433433388108601236734474956488734408704, 274877906943⟩] (.take 0 (.take 2 (.one 1 (.one 3 (.one 4 (.take 5 (.take 6 (.take 7 (.take 8 (.take 11 (.take 12 (.take 13 (.two 9 14 (.two 10 14 (.one 14 (.one 15 (.one 16 (.take 17 (.take 18 (.take 19 (.take 20 (.take 22 (.take 23 (.one 21 (.one 24 (.take 25 (.take 26 (.take 27 (.take 28 (.take 29 (.take 30 (.take 32 (.take 33 (.take 34 (.one 31 (.one 35 (.one 36 (.take 37 .done)))))))))))))))))))))))) (.one 10 (.one 15 (.one 16 (.take 17 (.take 18 (.take 19 (.take 20 (.take 22 (.take 23 (.one 21 (.one 24 (.take 25 (.take 26 (.take 27 (.take 28 (.take 29 (.take 30 (.take 32 (.take 33 (.take 34 (.one 31 (.one 35 (.one 36 (.take 37 .done))))))))))))))))))))))))) (.one 9 (.one 10 (.one 15 (.one 16 (.take 17 (.take 18 (.take 19 (.take 20 (.take 22 (.take 23 (.one 21 (.one 24 (.take 25 (.take 26 (.take 27 (.take 28 (.take 29 (.take 30 (.take 32 (.take 33 (.take 34 (.one 31 (.one 35 (.one 36 (.take 37 .done)))))))))))))))))))))))))))))))))))))) (fun w' => rdI w' pa 0 = some a ∧ rdI w' (pa + 1) 0 = some b) (by kernel_rfl) rfl (by kernel_rfl) (by kernel_rfl) (by kernel_rfl) F0 (fun hA hF => ?_)
            refine wpAnyT_take (v := ?_) hA rfl (fun _ _ _ h => h) (Or.inl ⟨by rfl, ?_⟩) hF (fun hA => ?_)
            rotate_left
            · intro wS hSw; (try dsimp only at hSw); obtain ⟨s1, s2⟩ := hSw; first | (apply Eq.trans; apply ex_ld_id; exact rfl; exact rfl; assumption; with_reducible rfl) | (apply Eq.trans; apply ex_ld_arr; exact rfl; exact rfl; assumption; with_reducible rfl) | (apply Eq.trans; apply ex_bldR_at; exact rfl; exact rfl; exact rfl; with_reducible rfl) | (go_simp; try with_reducible rfl)
            try simp only [List.getElem_toArray, List.getElem_cons_zero, List.getElem_cons_succ, Act.put, List.setIfInBounds_toArray, List.set_cons_zero, List.set_cons_succ]
            refine wpAnyT_take (v := ?_) hA rfl (fun _ _ _ h => h) (Or.inl ⟨by rfl, ?_⟩) hF (fun hA => ?_)
            rotate_left
            · intro wS hSw; (try dsimp only at hSw); obtain ⟨s1, s2⟩ := hSw; first | (apply Eq.trans; apply ex_ld_id; exact rfl; exact rfl; assumption; with_reducible rfl) | (apply Eq.trans; apply ex_ld_arr; exact rfl; exact rfl; assumption; with_reducible rfl) | (apply Eq.trans; apply ex_bldR_at; exact rfl; exact rfl; exact rfl; with_reducible rfl) | (go_simp; try with_reducible rfl)
            try simp only [List.getElem_toArray, List.getElem_cons_zero, List.getElem_cons_succ, Act.put, List.setIfInBounds_toArray, List.set_cons_zero, List.set_cons_succ]
            refine wpAnyT_one hA rfl (fun K' hK => ?_)
            go_simp
            go_at_call 26
            refine (heads_any _ D Fd m.reverse (dG.fr0 fq)).mono ?_
            rintro e u1 ⟨l1, ⟨A1, c1, rfl, ho1, hu1⟩, hr1, hm1, hb1⟩
            replace hF := keep _ _ hu1 hF
            refine hK.out _ _ hF (fun hA => ?_)
            clear hK K'
            have fu1 := fq.step0 hu1
            refine wpAnyT_one hA rfl (fun K' hK => ?_)
            go_simp
            go_at_call 27
            refine (refHeads_any _ A c _ m rfl (hRf.fr0 fu1) HOK.out (by omega)).mono ?_
            rintro e u2 ⟨l2, A2, c2, rfl, s2, ⟨hr2, hm2⟩, hb2, hu2⟩
            have el : l2 = l1 := rise_eq swoI hr2 hr1 (fun y => (hm2 y).trans (hm1 y).symm)
            subst el
            replace hF := keep _ _ hu2 hF
            refine hK.out _ _ hF (fun hA => ?_)
            clear hK K'
            have fu2 := fu1.step0 hu2
            refine wpAnyT_one hA rfl (fun K' hK => ?_)
            go_simp
            go_at_call 16
            refine (sameids_any _ A1 A2 c1 c2 _ _ l2 l2 rfl rfl ((Sl.own ho1).fr0 hu2) s2 (by omega)).mono ?_
            rintro e u4 ⟨rfl, hu4⟩
            rw [show decide (l2 = l2) = true by simp]
            replace hF := keep _ _ hu4 hF
            refine hK.out _ _ hF (fun hA => ?_)
            clear hK K'
            have fu4 := fu2.step0 hu4
            clear hr1 hm1 hr2 hm2 s2 ho1 hu1 hu2 hu4 fu1 fu2
            refine wpAnyT_take (v := ?_) hA rfl (fun _ _ _ h => h) (Or.inl ⟨by rfl, ?_⟩) hF (fun hA => ?_)
            rotate_left
            · intro wS hSw; (try dsimp only at hSw); obtain ⟨s1, s2⟩ := hSw; first | (apply Eq.trans; apply ex_ld_id; exact rfl; exact rfl; assumption; with_reducible rfl) | (apply Eq.trans; apply ex_ld_arr; exact rfl; exact rfl; assumption; with_reducible rfl) | (apply Eq.trans; apply ex_bldR_at; exact rfl; exact rfl; exact rfl; with_reducible rfl) | (go_simp; try with_reducible rfl)
            try simp only [List.getElem_toArray, List.getElem_cons_zero, List.getElem_cons_succ, Act.put, List.setIfInBounds_toArray, List.set_cons_zero, List.set_cons_succ]
            refine wpAnyT_take (v := ?_) hA rfl (fun _ _ _ h => h) (Or.inl ⟨by rfl, ?_⟩) hF (fun hA => ?_)
            rotate_left
            · intro wS hSw; (try dsimp only at hSw); obtain ⟨s1, s2⟩ := hSw; first | (apply Eq.trans; apply ex_ld_id; exact rfl; exact rfl; assumption; with_reducible rfl) | (apply Eq.trans; apply ex_ld_arr; exact rfl; exact rfl; assumption; with_reducible rfl) | (apply Eq.trans; apply ex_bldR_at; exact rfl; exact rfl; exact rfl; with_reducible rfl) | (go_simp; try with_reducible rfl)
            try simp only [List.getElem_toArray, List.getElem_cons_zero, List.getElem_cons_succ, Act.put, List.setIfInBounds_toArray, List.set_cons_zero, List.set_cons_succ]
            refine wpAnyT_take (v := ?_) hA rfl (fun _ _ _ h => h) (Or.inl ⟨by rfl, ?_⟩) hF (fun hA => ?_)
            rotate_left
            · intro wS hSw; (try dsimp only at hSw); obtain ⟨s1, s2⟩ := hSw; first | (apply Eq.trans; apply ex_ld_id; exact rfl; exact rfl; assumption; with_reducible rfl) | (apply Eq.trans; apply ex_ld_arr; exact rfl; exact rfl; assumption; with_reducible rfl) | (apply Eq.trans; apply ex_bldR_at; exact rfl; exact rfl; exact rfl; with_reducible rfl) | (go_simp; try with_reducible rfl)
            try simp only [List.getElem_toArray, List.getElem_cons_zero, List.getElem_cons_succ, Act.put, List.setIfInBounds_toArray, List.set_cons_zero, List.set_cons_succ]
            refine wpAnyT_take (v := ?_) hA rfl (fun _ _ _ h => h) (Or.inl ⟨by rfl, ?_⟩) hF (fun hA => ?_)
            rotate_left
            · intro wS hSw; (try dsimp only at hSw); obtain ⟨s1, s2⟩ := hSw; first | (apply Eq.trans; apply ex_ld_id; exact rfl; exact rfl; assumption; with_reducible rfl) | (apply Eq.trans; apply ex_ld_arr; exact rfl; exact rfl; assumption; with_reducible rfl) | (apply Eq.trans; apply ex_bldR_at; exact rfl; exact rfl; exact rfl; with_reducible rfl) | (go_simp; try with_reducible rfl)
            try simp only [List.getElem_toArray, List.getElem_cons_zero, List.getElem_cons_succ, Act.put, List.setIfInBounds_toArray, List.set_cons_zero, List.set_cons_succ]
            refine wpAnyT_take (v := ?_) hA rfl (fun _ _ _ h => h) (Or.inl ⟨by rfl, ?_⟩) hF (fun hA => ?_)
            rotate_left
            · intro wS hSw; (try dsimp only at hSw); obtain ⟨s1, s2⟩ := hSw; first | (apply Eq.trans; apply ex_ld_id; exact rfl; exact rfl; assumption; with_reducible rfl) | (apply Eq.trans; apply ex_ld_arr; exact rfl; exact rfl; assumption; with_reducible rfl) | (apply Eq.trans; apply ex_bldR_at; exact rfl; exact rfl; exact rfl; with_reducible rfl) | (go_simp; try with_reducible rfl)
            try simp only [List.getElem_toArray, List.getElem_cons_zero, List.getElem_cons_succ, Act.put, List.setIfInBounds_toArray, List.set_cons_zero, List.set_cons_succ]
            refine wpAnyT_take (v := ?_) hA rfl (fun _ _ _ h => h) (Or.inl ⟨by rfl, ?_⟩) hF (fun hA => ?_)
            rotate_left
            · intro wS hSw; (try dsimp only at hSw); obtain ⟨s1, s2⟩ := hSw; first | (apply Eq.trans; apply ex_ld_id; exact rfl; exact rfl; assumption; with_reducible rfl) | (apply Eq.trans; apply ex_ld_arr; exact rfl; exact rfl; assumption; with_reducible rfl) | (apply Eq.trans; apply ex_bldR_at; exact rfl; exact rfl; exact rfl; with_reducible rfl) | (go_simp; try with_reducible rfl)
            try simp only [List.getElem_toArray, List.getElem_cons_zero, List.getElem_cons_succ, Act.put, List.setIfInBounds_toArray, List.set_cons_zero, List.set_cons_succ]
            refine wpAnyT_take (v := ?_) hA rfl (fun _ _ _ h => h) (Or.inl ⟨by rfl, ?_⟩) hF (fun hA => ?_)
            rotate_left
            · intro wS hSw; (try dsimp only at hSw); obtain ⟨s1, s2⟩ := hSw; first | (apply Eq.trans; apply ex_ld_id; exact rfl; exact rfl; assumption; with_reducible rfl) | (apply Eq.trans; apply ex_ld_arr; exact rfl; exact rfl; assumption; with_reducible rfl) | (apply Eq.trans; apply ex_bldR_at; exact rfl; exact rfl; exact rfl; with_reducible rfl) | (go_simp; try with_reducible rfl)
            try simp only [List.getElem_toArray, List.getElem_cons_zero, List.getElem_cons_succ, Act.put, List.setIfInBounds_toArray, List.set_cons_zero, List.set_cons_succ]
            apply lift_T (F := fun q1 q2 v u => ∃ l A7 c7, v = .slice A7 l.length c7 ∧ Sl u A7 (idc l) ∧ Sl u (some ⟨q2, 0, none⟩) (idc [a, b]) ∧ (Rise (cfD m.reverse) l ∧ (∀ y, y ∈ l ↔ Reached m.reverse [a, b] y) ∧ l.length ≤ 1000000000) ∧ (rdI u pa 0 = some a ∧ rdI u (pa + 1) 0 = some b) ∧ Fr noB wl u)
            · intro cont
              refine wpAnyT_two (i := 9) (j := 14) hA rfl rfl (fun K' hK => ?_) (fun K' hK => ?_)
              · rw [if_pos (by rfl)]
                refine step_runW _ _ (ex_bs2_at (x := a) (y := b) rfl rfl rfl) ?_
                have fA : Fr noB u4 (World.alloc u4 (rowo [a, b])) := (Fr.refl noB u4).alloc _
                have sA := sl_new u4 [a, b]
                replace hF := keep _ _ fA hF
                refine hK.out _ _ hF (fun hA => ?_)
                clear hK K'
                try simp only [List.getElem_toArray, List.getElem_cons_zero, List.getElem_cons_succ, Act.put, List.setIfInBounds_toArray, List.set_cons_zero, List.set_cons_succ]
                have f5 := fu4.step0 fA
                refine wpAnyT_two (i := 10) (j := 14) hA rfl rfl (fun K' hK => ?_) (fun K' hK => ?_)
                · rw [if_pos (by rfl)]
                  go_simp
                  go_at_call 20
                  refine (ancestors_any _ D Fd m.reverse (dG.fr0 f5) _ _ _ [a, b] rfl sA (by simp)).mono ?_
                  rintro e u7 ⟨l7, ⟨A7, c7, rfl, ho7, hu7⟩, hr7, hm7, hb7⟩
                  replace hF := keep _ _ hu7 hF
                  refine hK.out _ _ hF (fun hA => ?_)
                  clear hK K'
                  try simp only [List.getElem_toArray, List.getElem_cons_zero, List.getElem_cons_succ, Act.put, List.setIfInBounds_toArray, List.set_cons_zero, List.set_cons_succ]
                  refine wpAnyT_one hA rfl (fun K' hK => ?_)
                  rw [if_pos (by rfl)]
                  refine step_runW _ _ (ex_bsR2_at (x := a) (y := b) rfl rfl rfl) ?_
                  have fB : Fr noB u7 (World.alloc u7 (rowr [a, b])) := (Fr.refl noB u7).alloc _
                  have sB := sl_newR u7 [a, b]
                  replace hF := keep _ _ fB hF
                  refine hK.out _ _ hF (fun hA => ?_)
                  clear hK K'
                  try simp only [List.getElem_toArray, List.getElem_cons_zero, List.getElem_cons_succ, Act.put, List.setIfInBounds_toArray, List.set_cons_zero, List.set_cons_succ]
                  have s7 := (Sl.own ho7).fr0 fB
                  have f7 := (f5.step0 hu7).step0 fB
                  generalize u7.alloc (rowr [a, b]) = u8 at sB hF s7 f7 ⊢
                  generalize u7.heap.size = q2 at sB ⊢
                  generalize u4.heap.size = q1
                  generalize ev : Value.slice A7 l7.length c7 = v
                  exact cont q1 q2 v _ u8 ⟨l7, A7, c7, ev.symm, s7, sB, ⟨hr7, hm7, hb7⟩, hF, f7⟩ hA
                · rw [if_pos (by rfl)]
                  refine step_runW _ _ (ex_bsR2_at (x := a) (y := b) rfl rfl rfl) ?_
                  have fB : Fr noB (u4.alloc (rowo [a, b])) (World.alloc (u4.alloc (rowo [a, b])) (rowr [a, b])) := (Fr.refl noB (u4.alloc (rowo [a, b]))).alloc _
                  have sB := sl_newR (u4.alloc (rowo [a, b])) [a, b]
                  replace hF := keep _ _ fB hF
                  refine hK.out _ _ hF (fun hA => ?_)
                  clear hK K'
                  try simp only [List.getElem_toArray, List.getElem_cons_zero, List.getElem_cons_succ, Act.put, List.setIfInBounds_toArray, List.set_cons_zero, List.set_cons_succ]
                  have f6 := f5.step0 fB
                  refine wpAnyT_one hA rfl (fun K' hK => ?_)
                  rw [if_pos (by rfl)]
                  go_simp
                  go_at_call 20
                  refine (ancestors_any _ D Fd m.reverse (dG.fr0 f6) _ _ _ [a, b] rfl (sA.fr0 fB) (by simp)).mono ?_
                  rintro e u7 ⟨l7, ⟨A7, c7, rfl, ho7, hu7⟩, hr7, hm7, hb7⟩
                  replace hF := keep _ _ hu7 hF
                  refine hK.out _ _ hF (fun hA => ?_)
                  clear hK K'
                  try simp only [List.getElem_toArray, List.getElem_cons_zero, List.getElem_cons_succ, Act.put, List.setIfInBounds_toArray, List.set_cons_zero, List.set_cons_succ]
                  have s7 := Sl.own ho7
                  have sB7 := sB.fr0 hu7
                  have f7 := f6.step0 hu7
                  try rw [World.size_alloc] at sB7
                  try simp only [World.size_alloc]
                  generalize u4.heap.size + 1 = q2 at sB7 ⊢
                  generalize u4.heap.size = q1
                  generalize ev : Value.slice A7 l7.length c7 = v
                  exact cont q1 q2 v _ u7 ⟨l7, A7, c7, ev.symm, s7, sB7, ⟨hr7, hm7, hb7⟩, hF, f7⟩ hA
              · rw [if_pos (by rfl)]
                refine step_runW _ _ (ex_bsR2_at (x := a) (y := b) rfl rfl rfl) ?_
                have fB : Fr noB u4 (World.alloc u4 (rowr [a, b])) := (Fr.refl noB u4).alloc _
                have sB := sl_newR u4 [a, b]
                replace hF := keep _ _ fB hF
                refine hK.out _ _ hF (fun hA => ?_)
                clear hK K'
                try simp only [List.getElem_toArray, List.getElem_cons_zero, List.getElem_cons_succ, Act.put, List.setIfInBounds_toArray, List.set_cons_zero, List.set_cons_succ]
                have f5 := fu4.step0 fB
                refine wpAnyT_one hA rfl (fun K' hK => ?_)
                rw [if_pos (by rfl)]
                refine step_runW _ _ (ex_bs2_at (x := a) (y := b) rfl rfl rfl) ?_
                have fA : Fr noB (u4.alloc (rowr [a, b])) (World.alloc (u4.alloc (rowr [a, b])) (rowo [a, b])) := (Fr.refl noB (u4.alloc (rowr [a, b]))).alloc _
                have sA := sl_new (u4.alloc (rowr [a, b])) [a, b]
                replace hF := keep _ _ fA hF
                refine hK.out _ _ hF (fun hA => ?_)
                clear hK K'
                try simp only [List.getElem_toArray, List.getElem_cons_zero, List.getElem_cons_succ, Act.put, List.setIfInBounds_toArray, List.set_cons_zero, List.set_cons_succ]
                rw [World.size_alloc] at sA
                have f6 := f5.step0 fA
                refine wpAnyT_one hA rfl (fun K' hK => ?_)
                rw [if_pos (by rfl)]
                go_simp
                go_at_call 20
                refine (ancestors_any _ D Fd m.reverse (dG.fr0 f6) _ _ _ [a, b] rfl sA (by simp)).mono ?_
                rintro e u7 ⟨l7, ⟨A7, c7, rfl, ho7, hu7⟩, hr7, hm7, hb7⟩
                replace hF := keep _ _ hu7 hF
                refine hK.out _ _ hF (fun hA => ?_)
                clear hK K'
                try simp only [List.getElem_toArray, List.getElem_cons_zero, List.getElem_cons_succ, Act.put, List.setIfInBounds_toArray, List.set_cons_zero, List.set_cons_succ]
                have s7 := Sl.own ho7
                have sB7 := (sB.fr0 fA).fr0 hu7
                have f7 := f6.step0 hu7
                try simp only [World.size_alloc]
                generalize u4.heap.size + 1 = q1
                generalize u4.heap.size = q2 at sB7 ⊢
                generalize ev : Value.slice A7 l7.length c7 = v
                exact cont q1 q2 v _ u7 ⟨l7, A7, c7, ev.symm, s7, sB7, ⟨hr7, hm7, hb7⟩, hF, f7⟩ hA
            clear hA hF fu4 F0
            rintro q1 q2 v L u ⟨l, A7, c7, rfl, s7, sB, ⟨hr7, hm7, hb7⟩, hF, fu⟩ hA
            refine wpAnyT_one hA rfl (fun K' hK => ?_)
            rw [if_pos (by rfl)]
            go_simp
            go_at_call 21
            refine (refAnc_any _ A c _ m rfl (hRf.fr0 fu) HOK.out (by omega) _ _ _ [a, b] rfl sB (by simp)).mono ?_
            rintro e u5 ⟨l5, A8, c8, rfl, s8, ⟨hr8, hm8⟩, hb8, hu5⟩
            have el : l5 = l := rise_eq (swoD _) hr8 hr7 (fun y => (hm8 y).trans (hm7 y).symm)
            subst el
            replace hF := keep _ _ hu5 hF
            refine hK.out _ _ hF (fun hA => ?_)
            clear hK K'
            as_aux_lemma =>
            have fu5 := fu.step0 hu5
            refine wpAnyT_one hA rfl (fun K' hK => ?_)
            rw [if_pos (by rfl)]
            go_simp
            go_at_call 16
            refine (sameids_any _ A7 A8 c7 c8 _ _ l5 l5 rfl rfl (s7.fr0 hu5) s8 (by omega)).mono ?_
            rintro e u6 ⟨rfl, hu6⟩
            rw [show decide (l5 = l5) = true by simp]
            replace hF := keep _ _ hu6 hF
            refine hK.out _ _ hF (fun hA => ?_)
            clear hK K'
            as_aux_lemma =>
            have fu6 := fu5.step0 hu6
            clear hr7 hm7 hr8 hm8 s7 s8 sB hu5 hu6 fu fu5
            refine wpAnyT_take (v := ?_) hA rfl (fun _ _ _ h => h) (Or.inl ⟨by rfl, ?_⟩) hF (fun hA => ?_)
            rotate_left
            · intro wS hSw; (try dsimp only at hSw); obtain ⟨s1, s2⟩ := hSw; first | (apply Eq.trans; apply ex_ld_id; exact rfl; exact rfl; assumption; with_reducible rfl) | (apply Eq.trans; apply ex_ld_arr; exact rfl; exact rfl; assumption; with_reducible rfl) | (apply Eq.trans; apply ex_bldR_at; exact rfl; exact rfl; exact rfl; with_reducible rfl) | (go_simp; try with_reducible rfl)
            try simp only [List.getElem_toArray, List.getElem_cons_zero, List.getElem_cons_succ, Act.put, List.setIfInBounds_toArray, List.set_cons_zero, List.set_cons_succ]
            refine wpAnyT_take (v := ?_) hA rfl (fun _ _ _ h => h) (Or.inl ⟨by rfl, ?_⟩) hF (fun hA => ?_)
            rotate_left
            · intro wS hSw; (try dsimp only at hSw); obtain ⟨s1, s2⟩ := hSw; first | (apply Eq.trans; apply ex_ld_id; exact rfl; exact rfl; assumption; with_reducible rfl) | (apply Eq.trans; apply ex_ld_arr; exact rfl; exact rfl; assumption; with_reducible rfl) | (apply Eq.trans; apply ex_bldR_at; exact rfl; exact rfl; exact rfl; with_reducible rfl) | (go_simp; try with_reducible rfl)
            try simp only [List.getElem_toArray, List.getElem_cons_zero, List.getElem_cons_succ, Act.put, List.setIfInBounds_toArray, List.set_cons_zero, List.set_cons_succ]
            refine wpAnyT_take (v := ?_) hA rfl (fun _ _ _ h => h) (Or.inl ⟨by rfl, ?_⟩) hF (fun hA => ?_)
            rotate_left
            · intro wS hSw; (try dsimp only at hSw); obtain ⟨s1, s2⟩ := hSw; first | (apply Eq.trans; apply ex_ld_id; exact rfl; exact rfl; assumption; with_reducible rfl) | (apply Eq.trans; apply ex_ld_arr; exact rfl; exact rfl; assumption; with_reducible rfl) | (apply Eq.trans; apply ex_bldR_at; exact rfl; exact rfl; exact rfl; with_reducible rfl) | (go_simp; try with_reducible rfl)
            try simp only [List.getElem_toArray, List.getElem_cons_zero, List.getElem_cons_succ, Act.put, List.setIfInBounds_toArray, List.set_cons_zero, List.set_cons_succ]
            refine wpAnyT_take (v := ?_) hA rfl (fun _ _ _ h => h) (Or.inl ⟨by rfl, ?_⟩) hF (fun hA => ?_)
            rotate_left
            · intro wS hSw; (try dsimp only at hSw); obtain ⟨s1, s2⟩ := hSw; first | (apply Eq.trans; apply ex_ld_id; exact rfl; exact rfl; assumption; with_reducible rfl) | (apply Eq.trans; apply ex_ld_arr; exact rfl; exact rfl; assumption; with_reducible rfl) | (apply Eq.trans; apply ex_bldR_at; exact rfl; exact rfl; exact rfl; with_reducible rfl) | (go_simp; try with_reducible rfl)
            try simp only [List.getElem_toArray, List.getElem_cons_zero, List.getElem_cons_succ, Act.put, List.setIfInBounds_toArray, List.set_cons_zero, List.set_cons_succ]
            refine wpAnyT_take (v := ?_) hA rfl (fun _ _ _ h => h) (Or.inl ⟨by rfl, ?_⟩) hF (fun hA => ?_)
            rotate_left
            · intro wS hSw; (try dsimp only at hSw); obtain ⟨s1, s2⟩ := hSw; first | (apply Eq.trans; apply ex_ld_id; exact rfl; exact rfl; assumption; with_reducible rfl) | (apply Eq.trans; apply ex_ld_arr; exact rfl; exact rfl; assumption; with_reducible rfl) | (apply Eq.trans; apply ex_bldR_at; exact rfl; exact rfl; exact rfl; with_reducible rfl) | (go_simp; try with_reducible rfl)
            try simp only [List.getElem_toArray, List.getElem_cons_zero, List.getElem_cons_succ, Act.put, List.setIfInBounds_toArray, List.set_cons_zero, List.set_cons_succ]
            refine wpAnyT_take (v := ?_) hA rfl (fun _ _ _ h => h) (Or.inl ⟨by rfl, ?_⟩) hF (fun hA => ?_)
            rotate_left
            · intro wS hSw; (try dsimp only at hSw); obtain ⟨s1, s2⟩ := hSw; first | (apply Eq.trans; apply ex_ld_id; exact rfl; exact rfl; assumption; with_reducible rfl) | (apply Eq.trans; apply ex_ld_arr; exact rfl; exact rfl; assumption; with_reducible rfl) | (apply Eq.trans; apply ex_bldR_at; exact rfl; exact rfl; exact rfl; with_reducible rfl) | (go_simp; try with_reducible rfl)
            try simp only [List.getElem_toArray, List.getElem_cons_zero, List.getElem_cons_succ, Act.put, List.setIfInBounds_toArray, List.set_cons_zero, List.set_cons_succ]
            refine wpAnyT_one hA rfl (fun K' hK => ?_)
            rw [if_pos (by rfl)]
            go_simp
            go_at_call 18
            refine (depth_any _ D Fd m.reverse (dG.fr0 fu6) a).mono ?_
            rintro e u7 ⟨rfl, hu7⟩
            replace hF := keep _ _ hu7 hF
            refine hK.out _ _ hF (fun hA => ?_)
            clear hK K'
            as_aux_lemma =>
            have fu7 := fu6.step0 hu7
            refine wpAnyT_one hA rfl (fun K' hK => ?_)
            rw [if_pos (by rfl)]
            go_simp
            go_at_call 19
            refine (refDepth_any _ A c _ m rfl (hRf.fr0 fu7) HOK.out (by omega) a).mono ?_
            rintro e u8 ⟨rfl, hu8⟩
            replace hF := keep _ _ hu8 hF
            refine hK.out _ _ hF (fun hA => ?_)
            clear hK K'
            as_aux_lemma =>
            have fu8 := fu7.step0 hu8
            generalize depthG m.reverse a = dx
            have edx : ((dx : Int) == (dx : Int)) = true := by simp
            refine wpAnyT_take (v := ?_) hA rfl (fun _ _ _ h => h) (Or.inl ⟨by rfl, ?_⟩) hF (fun hA => ?_)
            rotate_left
            · intro wS hSw; (try dsimp only at hSw); obtain ⟨s1, s2⟩ := hSw; first | (apply Eq.trans; apply ex_ld_id; exact rfl; exact rfl; assumption; with_reducible rfl) | (apply Eq.trans; apply ex_ld_arr; exact rfl; exact rfl; assumption; with_reducible rfl) | (apply Eq.trans; apply ex_bldR_at; exact rfl; exact rfl; exact rfl; with_reducible rfl) | (go_simp; try with_reducible rfl)
            try simp only [List.getElem_toArray, List.getElem_cons_zero, List.getElem_cons_succ, Act.put, List.setIfInBounds_toArray, List.set_cons_zero, List.set_cons_succ]
            refine wpAnyT_take (v := ?_) hA rfl (fun _ _ _ h => h) (Or.inl ⟨by rfl, ?_⟩) hF (fun hA => ?_)
            rotate_left
            · intro wS hSw; (try dsimp only at hSw); obtain ⟨s1, s2⟩ := hSw; first | (apply Eq.trans; apply ex_ld_id; exact rfl; exact rfl; assumption; with_reducible rfl) | (apply Eq.trans; apply ex_ld_arr; exact rfl; exact rfl; assumption; with_reducible rfl) | (apply Eq.trans; apply ex_bldR_at; exact rfl; exact rfl; exact rfl; with_reducible rfl) | (go_simp; try with_reducible rfl)
            try simp only [List.getElem_toArray, List.getElem_cons_zero, List.getElem_cons_succ, Act.put, List.setIfInBounds_toArray, List.set_cons_zero, List.set_cons_succ]
            refine wpAnyT_take (v := ?_) hA rfl (fun _ _ _ h => h) (Or.inl ⟨by rfl, ?_⟩) hF (fun hA => ?_)
            rotate_left
            · intro wS hSw; (try dsimp only at hSw); obtain ⟨s1, s2⟩ := hSw; first | (apply Eq.trans; apply ex_ld_id; exact rfl; exact rfl; assumption; with_reducible rfl) | (apply Eq.trans; apply ex_ld_arr; exact rfl; exact rfl; assumption; with_reducible rfl) | (apply Eq.trans; apply ex_bldR_at; exact rfl; exact rfl; exact rfl; with_reducible rfl) | (go_simp; try with_reducible rfl)
            try simp only [List.getElem_toArray, List.getElem_cons_zero, List.getElem_cons_succ, Act.put, List.setIfInBounds_toArray, List.set_cons_zero, List.set_cons_succ]
            refine wpAnyT_take (v := ?_) hA rfl (fun _ _ _ h => h) (Or.inl ⟨by rfl, ?_⟩) hF (fun hA => ?_)
            rotate_left
            · intro wS hSw; (try dsimp only at hSw); obtain ⟨s1, s2⟩ := hSw; first | (apply Eq.trans; apply ex_ld_id; exact rfl; exact rfl; assumption; with_reducible rfl) | (apply Eq.trans; apply ex_ld_arr; exact rfl; exact rfl; assumption; with_reducible rfl) | (apply Eq.trans; apply ex_bldR_at; exact rfl; exact rfl; exact rfl; with_reducible rfl) | (go_simp; try with_reducible rfl)
            try simp only [List.getElem_toArray, List.getElem_cons_zero, List.getElem_cons_succ, Act.put, List.setIfInBounds_toArray, List.set_cons_zero, List.set_cons_succ]
            refine wpAnyT_take (v := ?_) hA rfl (fun _ _ _ h => h) (Or.inl ⟨by rfl, ?_⟩) hF (fun hA => ?_)
            rotate_left
            · intro wS hSw; (try dsimp only at hSw); obtain ⟨s1, s2⟩ := hSw; first | (apply Eq.trans; apply ex_ld_id; exact rfl; exact rfl; assumption; with_reducible rfl) | (apply Eq.trans; apply ex_ld_arr; exact rfl; exact rfl; assumption; with_reducible rfl) | (apply Eq.trans; apply ex_bldR_at; exact rfl; exact rfl; exact rfl; with_reducible rfl) | (go_simp; try with_reducible rfl)
            try simp only [List.getElem_toArray, List.getElem_cons_zero, List.getElem_cons_succ, Act.put, List.setIfInBounds_toArray, List.set_cons_zero, List.set_cons_succ]
            refine wpAnyT_take (v := ?_) hA rfl (fun _ _ _ h => h) (Or.inl ⟨by rfl, ?_⟩) hF (fun hA => ?_)
            rotate_left
            · intro wS hSw; (try dsimp only at hSw); obtain ⟨s1, s2⟩ := hSw; first | (apply Eq.trans; apply ex_ld_id; exact rfl; exact rfl; assumption; with_reducible rfl) | (apply Eq.trans; apply ex_ld_arr; exact rfl; exact rfl; assumption; with_reducible rfl) | (apply Eq.trans; apply ex_bldR_at; exact rfl; exact rfl; exact rfl; with_reducible rfl) | (go_simp; try with_reducible rfl)
            try simp only [List.getElem_toArray, List.getElem_cons_zero, List.getElem_cons_succ, Act.put, List.setIfInBounds_toArray, List.set_cons_zero, List.set_cons_succ]
            refine wpAnyT_take (v := ?_) hA rfl (fun _ _ _ h => h) (Or.inl ⟨by rfl, ?_⟩) hF (fun hA => ?_)
            rotate_left
            · intro wS hSw; (try dsimp only at hSw); obtain ⟨s1, s2⟩ := hSw; first | (apply Eq.trans; apply ex_ld_id; exact rfl; exact rfl; assumption; with_reducible rfl) | (apply Eq.trans; apply ex_ld_arr; exact rfl; exact rfl; assumption; with_reducible rfl) | (apply Eq.trans; apply ex_bldR_at; exact rfl; exact rfl; exact rfl; with_reducible rfl) | (go_simp; try with_reducible rfl)
            try simp only [List.getElem_toArray, List.getElem_cons_zero, List.getElem_cons_succ, Act.put, List.setIfInBounds_toArray, List.set_cons_zero, List.set_cons_succ]
            refine wpAnyT_take (v := ?_) hA rfl (fun _ _ _ h => h) (Or.inl ⟨by rfl, ?_⟩) hF (fun hA => ?_)
            rotate_left
            · intro wS hSw; (try dsimp only at hSw); obtain ⟨s1, s2⟩ := hSw; first | (apply Eq.trans; apply ex_ld_id; exact rfl; exact rfl; assumption; with_reducible rfl) | (apply Eq.trans; apply ex_ld_arr; exact rfl; exact rfl; assumption; with_reducible rfl) | (apply Eq.trans; apply ex_bldR_at; exact rfl; exact rfl; exact rfl; with_reducible rfl) | (go_simp; try with_reducible rfl)
            try simp only [List.getElem_toArray, List.getElem_cons_zero, List.getElem_cons_succ, Act.put, List.setIfInBounds_toArray, List.set_cons_zero, List.set_cons_succ]
            refine wpAnyT_take (v := ?_) hA rfl (fun _ _ _ h => h) (Or.inl ⟨by rfl, ?_⟩) hF (fun hA => ?_)
            rotate_left
            · intro wS hSw; (try dsimp only at hSw); obtain ⟨s1, s2⟩ := hSw; first | (apply Eq.trans; apply ex_ld_id; exact rfl; exact rfl; assumption; with_reducible rfl) | (apply Eq.trans; apply ex_ld_arr; exact rfl; exact rfl; assumption; with_reducible rfl) | (apply Eq.trans; apply ex_bldR_at; exact rfl; exact rfl; exact rfl; with_reducible rfl) | (go_simp; try with_reducible rfl)
            try simp only [List.getElem_toArray, List.getElem_cons_zero, List.getElem_cons_succ, Act.put, List.setIfInBounds_toArray, List.set_cons_zero, List.set_cons_succ]
            refine wpAnyT_one hA rfl (fun K' hK => ?_)
            rw [if_pos (by rfl)]
            go_simp
            go_at_call 22
            refine (bases_any _ D Fd m.reverse (dG.fr0 fu8) a b).mono ?_
            rintro e u9 ⟨lb, ⟨A9, c9, rfl, ho9, hu9⟩, hr9, hm9, hb9⟩
            have hm9' : ∀ z, z ∈ lb ↔ BaseOf m.reverse a b z := hm9
            clear hm9
            replace hF := keep _ _ hu9 hF
            refine hK.out _ _ hF (fun hA => ?_)
            clear hK K'
            as_aux_lemma =>
            have fu9 := fu8.step0 hu9
            refine wpAnyT_one hA rfl (fun K' hK => ?_)
            rw [if_pos (by rfl)]
            go_simp
            go_at_call 23
            refine (refBases_any _ A c _ m rfl (hRf.fr0 fu9) HOK.out (by omega) a b).mono ?_
            rintro e u10 ⟨lb2, A10, c10, rfl, s10, ⟨hr10, hm10⟩, hb10, hu10⟩
            have el : lb2 = lb := rise_eq swoI hr10 hr9 (fun y => (hm10 y).trans (hm9' y).symm)
            subst el
            replace hF := keep _ _ hu10 hF
            refine hK.out _ _ hF (fun hA => ?_)
            clear hK K'
            as_aux_lemma =>
            have fu10 := fu9.step0 hu10
            refine wpAnyT_one hA rfl (fun K' hK => ?_)
            rw [if_pos (by rfl)]
            go_simp
            go_at_call 16
            refine (sameids_any _ A9 A10 c9 c10 _ _ lb2 lb2 rfl rfl ((Sl.own ho9).fr0 hu10) s10 (by omega)).mono ?_
            rintro e u11 ⟨rfl, hu11⟩
            rw [show decide (lb2 = lb2) = true by simp]
            replace hF := keep _ _ hu11 hF
            refine hK.out _ _ hF (fun hA => ?_)
            clear hK K'
            as_aux_lemma =>
            have fu11 := fu10.step0 hu11
            clear hr9 hm9' hr10 hm10 s10 ho9
            refine wpAnyT_take (v := ?_) hA rfl (fun _ _ _ h => h) (Or.inl ⟨by rfl, ?_⟩) hF (fun hA => ?_)
            rotate_left
            · intro wS hSw; (try dsimp only at hSw); obtain ⟨s1, s2⟩ := hSw; first | (apply Eq.trans; apply ex_ld_id; exact rfl; exact rfl; assumption; with_reducible rfl) | (apply Eq.trans; apply ex_ld_arr; exact rfl; exact rfl; assumption; with_reducible rfl) | (apply Eq.trans; apply ex_bldR_at; exact rfl; exact rfl; exact rfl; with_reducible rfl) | (go_simp; try with_reducible rfl)
            try simp only [List.getElem_toArray, List.getElem_cons_zero, List.getElem_cons_succ, Act.put, List.setIfInBounds_toArray, List.set_cons_zero, List.set_cons_succ]
            refine wpAnyT_end hA rfl ?_
            simp only [List.drop_succ_cons, List.drop_zero]
            clear hF
            go_wp2_with fail
            go_ret
            exact ⟨rfl, (fw.step0 fu11).below⟩
end Go.Proofs.Ytchiclnnoealdaa
