/- The law DagKnots: it returns true. -/
import Derived.Test.YtchiclnnoealdaaLawB
import Derived.Test.YtchiclnnoealdaaKnotsP
import Derived.Test.YtchiclnnoealdaaRegM
namespace Go.Proofs.Ytchiclnnoealdaa
open Go.RowKit Go.Maps Go.Sort Go.Shelf
set_option linter.unusedVariables false
set_option linter.unusedSimpArgs false

def KnoR (w : World) (D ba n : Nat) (gk : Nat) (iv : Value) (wr : World) : Prop :=
  w.heap.size ≤ ba ∧ ∃ i : Nat, iv = .int .i64 (i : Int) ∧ gk = n - i ∧ i ≤ n ∧ DagL w wr D (KG i) (betw ba (ba + 2)) ∧ bxI wr ba = some (kA i) ∧ bxI wr (ba + 1) = some (kB i)

set_option maxRecDepth 100000 in
set_option maxHeartbeats 4000000 in
theorem knots_any (w : World) (a0 : Int) (ha : (Lit.int .i64 a0).wf = true) : Calls Try.prog 7 #[.int .i64 a0] w (lawPost w) := by
  go_enter Try.func7, Try.ntmps7
  go_wp2_with fail
  go_at_call 9
  refine (alive_any w).mono ?_
  rintro e w1 ⟨rfl, f1⟩
  obtain ⟨r, er, hr⟩ := and_mask a0 7 (by omega)
  have er' : bits BinOp.and IntKind.i64 a0 7 = (r : Int) := er
  have ew : wrap64 (1 + (r : Int)) = ((r + 1 : Nat) : Int) := by unfold wrap64; omega
  clear er
  go_wp2_with fail
  go_at_call 8
  refine (newL_any w w1 f1 (fun _ => False) (fun _ h => h.elim)).mono ?_
  rintro e w2 ⟨D, rfl, hD, f2⟩
  go_wp2_with fail
  go_at_call 10
  refine (addL_any hD (by simp) (id2 1 0) none 0 0 [] rfl (Sl.nil _ _) (by simp)).mono ?_
  rintro e w3 ⟨rfl, hD3, hf3⟩
  have hk0 : addG [] (id2 1 0) [] = (0, [(kR, [])]) := kn_0
  rw [hk0] at hD3 ⊢
  have fb : Fr noB w3 ((w3.alloc (ido zID)).alloc (ido zID)) := ((Fr.refl noB w3).alloc _).alloc _
  have s1 : bxI ((w3.alloc (ido zID)).alloc (ido zID)) w3.heap.size = some zID := by rw [bxI_old _ _ _ (by simp), bxI_new]
  have s2' : bxI ((w3.alloc (ido zID)).alloc (ido zID)) (w3.heap.size + 1) = some zID := by rw [bxI_new' _ _ _ (by simp)]
  obtain ⟨a1, a2, a3⟩ := putB_fr s1 (id2 2 0)
  have s2 := bxI_fr s2' a1 (by simp [oneB])
  obtain ⟨b1, b2, b3⟩ := putB_fr s2 (id2 2 1)
  have q1 := bxI_fr a3 b1 (by simp [oneB])
  have sz : ((w3.alloc (ido zID)).alloc (ido zID)).heap.size = w3.heap.size + 2 := by simp
  have lw : w.heap.size ≤ w3.heap.size := hD3.fr.size
  have hD4 := (hD3.more fb).mono (S' := betw w3.heap.size (w3.heap.size + 2)) (fun b hb => .inr ⟨hb.1, by rw [sz]; exact hb.2⟩)
  have hD5 := hD4.frS a1 (fun b hb => ⟨⟨by have : b = _ := hb; omega, by have : b = _ := hb; omega⟩, by have : b = _ := hb; omega⟩)
  have hD6 := hD5.frS b1 (fun b hb => ⟨⟨by have : b = _ := hb; omega, by have : b = _ := hb; omega⟩, by have : b = _ := hb; omega⟩)
  generalize hW : putB (putB ((w3.alloc (ido zID)).alloc (ido zID)) w3.heap.size (id2 2 0)) (w3.heap.size + 1) (id2 2 1) = W at q1 b3 hD6
  clear hD4 hD5 hD3 s2' a1 a2 a3 b1 b2 sz
  have ra := bxI_rd q1
  have fx : Fr noB W (W.alloc (rowo [id2 1 0])) := (Fr.refl noB W).alloc _
  have ex := sl_new W [id2 1 0]
  go_wp2_with fail
  go_at_call 10
  refine (addL_any (hD6.fr0 fx) (by simp) (id2 2 0) _ _ _ [id2 1 0] rfl ex (by simp)).mono ?_
  rintro e w4 ⟨rfl, hD7, hf7⟩
  have hk1 : addG [(kR, [])] (id2 2 0) [id2 1 0] = (0, [(kA 0, [kR]), (kR, [])]) := kn_1
  rw [hk1] at hD7 ⊢
  have nS : ∀ b, betw w3.heap.size (w3.heap.size + 2) b → ¬ notS w (betw w3.heap.size (w3.heap.size + 2)) b := fun b hb h => h.2 hb
  have q1' := bxI_fr (bxI_fr q1 fx (by simp [noB])) hf7 (nS _ ⟨by omega, by omega⟩)
  have q2' := bxI_fr (bxI_fr b3 fx (by simp [noB])) hf7 (nS _ ⟨by omega, by omega⟩)
  have rb := bxI_rd q2'
  have fy : Fr noB w4 (w4.alloc (rowo [id2 1 0])) := (Fr.refl noB w4).alloc _
  have ey := sl_new w4 [id2 1 0]
  go_wp2_with fail
  go_at_call 10
  refine (addL_any (hD7.fr0 fy) (by simp) (id2 2 1) _ _ _ [id2 1 0] rfl ey (by simp)).mono ?_
  rintro e w5 ⟨rfl, hD8, hf8⟩
  have hk2 : addG [(kA 0, [kR]), (kR, [])] (id2 2 1) [id2 1 0] = (0, KG 0) := kn_2
  rw [hk2] at hD8 ⊢
  have qa : bxI w5 w3.heap.size = some (kA 0) := bxI_fr (bxI_fr q1' fy (by simp [noB])) hf8 (nS _ ⟨by omega, by omega⟩)
  have qb : bxI w5 (w3.heap.size + 1) = some (kB 0) := bxI_fr (bxI_fr q2' fy (by simp [noB])) hf8 (nS _ ⟨by omega, by omega⟩)
  clear q1 b3 ra rb q1' q2' hf7 hf8 ex ey fx fy hD6 hD7 hD s1 s2 hW
  generalize w3.heap.size = ba at *
  go_wp2_with fail
  go_loopg [6] (r + 1) (fun gk iv wr => KnoR w D ba (r + 1) gk iv wr)
  case atStart => exact ⟨lw, 0, rfl, by omega, by omega, hD8, qa, qb⟩
  case round =>
    obtain ⟨lba, i, rfl, rfl, hin, hDi, qa, qb⟩ := hrel
    have hinv := KG_inv i (by omega)
    by_cases hlt : i < r + 1
    · have i1 : (i : Int) < 1 + (r : Int) := by omega
      have hfa := kn_fa i (by omega)
      have hfb := kn_fb i (by omega)
      have hinv2 := KG_inv (i + 1) (by omega)
      have w1' : wrap64 (3 + (i : Int)) = 3 + i := by unfold wrap64; omega
      have w2' : IntKind.u8.wrap (3 + (i : Int)) = 3 + i := by rw [IntKind.wrap_u8]; omega
      have t1 : (3 + (i : Int)).toNat = 3 + i := by omega
      have c1 : (0 : Int) ≤ 3 + i := by omega
      have c2 : (3 + i : Int) < 256 := by omega
      have fb : Fr noB wr ((wr.alloc (ido zID)).alloc (ido zID)) := ((Fr.refl noB wr).alloc _).alloc _
      have s1 : bxI ((wr.alloc (ido zID)).alloc (ido zID)) wr.heap.size = some zID := by rw [bxI_old _ _ _ (by simp), bxI_new]
      have s2' : bxI ((wr.alloc (ido zID)).alloc (ido zID)) (wr.heap.size + 1) = some zID := by rw [bxI_new' _ _ _ (by simp)]
      obtain ⟨a1, a2, a3⟩ := putB_fr s1 (id2 (3 + i) 0)
      have s2 := bxI_fr s2' a1 (by simp [oneB])
      obtain ⟨b1, b2, b3⟩ := putB_fr s2 (id2 (3 + i) 1)
      have q1 := bxI_fr a3 b1 (by simp [oneB])
      have sz : ((wr.alloc (ido zID)).alloc (ido zID)).heap.size = wr.heap.size + 2 := by simp
      have lw : w.heap.size ≤ wr.heap.size := hDi.fr.size
      have la := bxI_lt qa
      have lb := bxI_lt qb
      have qa1 := bxI_fr (bxI_fr (bxI_fr qa fb (by simp [noB])) a1 (fun e => by have : ba = _ := e; omega)) b1 (fun e => by have : ba = _ := e; omega)
      have qb1 := bxI_fr (bxI_fr (bxI_fr qb fb (by simp [noB])) a1 (fun e => by have : ba + 1 = _ := e; omega)) b1 (fun e => by have : ba + 1 = _ := e; omega)
      have hD4 := (hDi.more fb).mono (S' := fun b => betw ba (ba + 2) b ∨ betw wr.heap.size (wr.heap.size + 2) b) (fun b hb => hb.imp_right (fun hb => ⟨hb.1, by rw [sz]; exact hb.2⟩))
      have hD5 := hD4.frS a1 (fun b hb => ⟨.inr ⟨by have : b = _ := hb; omega, by have : b = _ := hb; omega⟩, by have : b = _ := hb; omega⟩)
      have hD6 := hD5.frS b1 (fun b hb => ⟨.inr ⟨by have : b = _ := hb; omega, by have : b = _ := hb; omega⟩, by have : b = _ := hb; omega⟩)
      generalize hW : putB (putB ((wr.alloc (ido zID)).alloc (ido zID)) wr.heap.size (id2 (3 + i) 0)) (wr.heap.size + 1) (id2 (3 + i) 1) = W at q1 b3 hD6 qa1 qb1
      clear hD4 hD5 s2' a1 a2 a3 b1 b2 sz fb
      have nS : ∀ b, (betw ba (ba + 2) b ∨ betw wr.heap.size (wr.heap.size + 2) b) → ¬ notS w (fun b => betw ba (ba + 2) b ∨ betw wr.heap.size (wr.heap.size + 2) b) b := fun b hb h => h.2 hb
      have keep : ∀ w' w'' : World, Fr (notS w (fun b => betw ba (ba + 2) b ∨ betw wr.heap.size (wr.heap.size + 2) b)) w' w'' → (bxI w' ba = some (kA i) ∧ bxI w' (ba + 1) = some (kB i) ∧ bxI w' wr.heap.size = some (id2 (3 + i) 0) ∧ bxI w' (wr.heap.size + 1) = some (id2 (3 + i) 1)) →
          (bxI w'' ba = some (kA i) ∧ bxI w'' (ba + 1) = some (kB i) ∧ bxI w'' wr.heap.size = some (id2 (3 + i) 0) ∧ bxI w'' (wr.heap.size + 1) = some (id2 (3 + i) 1)) := fun w' w'' f h =>
        ⟨bxI_fr h.1 f (nS _ (.inl ⟨by omega, by omega⟩)), bxI_fr h.2.1 f (nS _ (.inl ⟨by omega, by omega⟩)), bxI_fr h.2.2.1 f (nS _ (.inr ⟨by omega, by omega⟩)), bxI_fr h.2.2.2 f (nS _ (.inr ⟨by omega, by omega⟩))⟩
      have B0 : bxI W ba = some (kA i) ∧ bxI W (ba + 1) = some (kB i) ∧ bxI W wr.heap.size = some (id2 (3 + i) 0) ∧ bxI W (wr.heap.size + 1) = some (id2 (3 + i) 1) := ⟨qa1, qb1, q1, b3⟩
      clear qa1 qb1 q1 b3
      have hG : (KG i).length < 100 := by rw [KG_len]; omega
      have rA := bxI_rd B0.1
      have rB := bxI_rd B0.2.1
      have rC := bxI_rd B0.2.2.1
      have fx : Fr noB W (W.alloc (rowo [kA i, kB i])) := (Fr.refl noB W).alloc _
      have ex := sl_new W [kA i, kB i]
      go_wp2_with fail
      go_at_call 10
      refine (addL_any (hD6.fr0 fx) (by omega) (id2 (3 + i) 0) _ _ _ [kA i, kB i] rfl ex (by simp)).mono ?_
      rintro e v1 ⟨rfl, hE1, hg1⟩
      have ea1 : addG (KG i) (id2 (3 + i) 0) [kA i, kB i] = (0, (kA (i + 1), [kA i, kB i]) :: KG i) := by
        have := hinv.add1 hfa (hinv2.na)
        rw [show kA (i + 1) = id2 (3 + i) 0 by unfold kA; congr 1; omega] at this ⊢
        exact this
      rw [ea1] at hE1 ⊢
      have B1 := keep _ _ hg1 ⟨bxI_fr B0.1 fx (by simp [noB]), bxI_fr B0.2.1 fx (by simp [noB]), bxI_fr B0.2.2.1 fx (by simp [noB]), bxI_fr B0.2.2.2 fx (by simp [noB])⟩
      clear rA rB rC
      have rA := bxI_rd B1.1
      have rB := bxI_rd B1.2.1
      have rD := bxI_rd B1.2.2.2
      have fy : Fr noB v1 (v1.alloc (rowo [kA i, kB i])) := (Fr.refl noB v1).alloc _
      have ey := sl_new v1 [kA i, kB i]
      go_wp2_with fail
      go_at_call 10
      refine (addL_any (hE1.fr0 fy) (by simp only [List.length_cons]; omega) (id2 (3 + i) 1) _ _ _ [kA i, kB i] rfl ey (by simp)).mono ?_
      rintro e v2 ⟨rfl, hE2, hg2⟩
      have ea2 : addG ((kA (i + 1), [kA i, kB i]) :: KG i) (id2 (3 + i) 1) [kA i, kB i] = (0, KG (i + 1)) := by
        have := hinv.add2 hfa hfb (ne_of_lt hinv2.lt) hinv2.nb
        rw [show kB (i + 1) = id2 (3 + i) 1 by unfold kB; congr 1; omega] at this
        rw [this, KG]
        rw [show kB (i + 1) = id2 (3 + i) 1 by unfold kB; congr 1; omega]
      rw [ea2] at hE2 ⊢
      have B2 := keep _ _ hg2 ⟨bxI_fr B1.1 fy (by simp [noB]), bxI_fr B1.2.1 fy (by simp [noB]), bxI_fr B1.2.2.1 fy (by simp [noB]), bxI_fr B1.2.2.2 fy (by simp [noB])⟩
      clear rA rB rD
      have rA := bxI_rd B2.1
      have rB := bxI_rd B2.2.1
      have fz : Fr noB v2 (v2.alloc (rowo [kB i, kA i])) := (Fr.refl noB v2).alloc _
      have ez := sl_new v2 [kB i, kA i]
      have w3' : IntKind.u8.wrap (i : Int) = i := by rw [IntKind.wrap_u8]; omega
      have c3 : (0 : Int) ≤ i := by omega
      have c4 : (i : Int) < 256 := by omega
      go_wp2_with fail
      go_at_call 10
      refine (addL_any (hE2.fr0 fz) (by rw [KG_len]; omega) (id2 100 i) _ _ _ [kB i, kA i] rfl ez (by simp)).mono ?_
      rintro e v3 ⟨rfl, hE3, hg3⟩
      rw [hinv.add3] at hE3 ⊢
      have B3 := keep _ _ hg3 ⟨bxI_fr B2.1 fz (by simp [noB]), bxI_fr B2.2.1 fz (by simp [noB]), bxI_fr B2.2.2.1 fz (by simp [noB]), bxI_fr B2.2.2.2 fz (by simp [noB])⟩
      clear rA rB
      have rC := bxI_rd B3.2.2.1
      have rD := bxI_rd B3.2.2.2
      have eC : id2 (3 + i) 0 = kA (i + 1) := by unfold kA; congr 1; omega
      have eD : id2 (3 + i) 1 = kB (i + 1) := by unfold kB; congr 1; omega
      obtain ⟨Fd, hI⟩ := hE3
      have dG := hI.at_
      go_wp2_with fail
      go_at_call 22
      simp only [eC, eD] at B3 rC rD ⊢
      refine (bases_any v3 D Fd (KG (i + 1)) dG (kA (i + 1)) (kB (i + 1))).mono ?_
      rintro e v4 ⟨l, ⟨A4, c4', rfl, ho4, hf4⟩, hr4, hm4, hb4⟩
      have el : l = [kA i, kB i] := hinv.bases hfa hfb hinv2 hr4 (fun y => (hm4 y).trans (basB_iff hinv2.ok _ _ y))
      subst el
      obtain ⟨g, off, rfl⟩ := (Sl.own ho4).ad (by simp)
      have g0 := (Sl.own ho4).id 0 (by simp)
      have g1 := (Sl.own ho4).id 1 (by simp)
      simp only [Nat.zero_mul, Nat.add_zero, Nat.one_mul, List.getElem_cons_zero, List.getElem_cons_succ] at g0 g1
      have x1 := rdI_fr (bxI_rd B3.1) (rdI_lt (bxI_rd B3.1)) hf4.drew (by simp [noB])
      have x2 := rdI_fr (bxI_rd B3.2.1) (rdI_lt (bxI_rd B3.2.1)) hf4.drew (by simp [noB])
      have x3 := rdI_fr rC (rdI_lt rC) hf4.drew (by simp [noB])
      have x4 := rdI_fr rD (rdI_lt rD) hf4.drew (by simp [noB])
      have x5 : rdI v4.drew g off = some (kA i) := by rw [rdI_drew]; exact g0
      have x6 : rdI v4.drew g (off + 32) = some (kB i) := by rw [rdI_drew]; exact g1
      have B4 := hf4
      have d4 : DagAt v4.drew D Fd (KG (i + 1)) := dG.fr0 hf4.drew
      have keepF : ∀ w', Fr noB v4.drew w' → rdI w' ba 0 = some (kA i) ∧ rdI w' (ba + 1) 0 = some (kB i) ∧ rdI w' wr.heap.size 0 = some (kA (i + 1)) ∧ rdI w' (wr.heap.size + 1) 0 = some (kB (i + 1)) ∧ rdI w' g off = some (kA i) ∧ rdI w' g (off + 32) = some (kB i) := fun w' f =>
        ⟨rdI_fr x1 (rdI_lt x1) f (by simp [noB]), rdI_fr x2 (rdI_lt x2) f (by simp [noB]), rdI_fr x3 (rdI_lt x3) f (by simp [noB]), rdI_fr x4 (rdI_lt x4) f (by simp [noB]), rdI_fr x5 (rdI_lt x5) f (by simp [noB]), rdI_fr x6 (rdI_lt x6) f (by simp [noB])⟩
      have hdep : ((depthG (KG (i + 1)) (kA (i + 1)) : Nat) : Int) = 3 + (i : Int) := by rw [hinv2.da]; omega
      have m0 : IntKind.i64.wrap (3 + (i : Int)) = 3 + i := by rw [IntKind.wrap_i64]; omega
      have m1 : IntKind.i64.wrap (2 * (i : Int)) = 2 * i := by rw [IntKind.wrap_i64]; omega
      have m2 : IntKind.i64.wrap (5 + 2 * (i : Int)) = 5 + 2 * i := by rw [IntKind.wrap_i64]; omega
      clear hm4 hr4 g0 g1 rC rD ho4 hb4
      go_wp2_with fail
      refine wp_region_M 42 43 [⟨1208925819614629174706176, 512, 0⟩, ⟨2417851639229258349412352, 1208925819614629174706176, 1⟩, ⟨4835703278458516698824704, 2417851639229258349412352, 2⟩, ⟨9671406556917033397649408, 4835703278458516698824704, 4⟩, ⟨19342813113834066795298816, 9671406556917033397649920, 8⟩, ⟨38685626227668133590597632, 29014219670751100192948224, 24⟩, ⟨77371252455336267181195264, 48357032784585166988247040, 40⟩, ⟨154742504910672534362390528, 9671406556917033397649424, 8⟩, ⟨309485009821345068724781056, 241785163922925834941235200, 200⟩, ⟨618970019642690137449562112, 319156416378262102122430464, 264⟩, ⟨1237940039285380274899124224, 618970019642690137449562112, 520⟩, ⟨2475880078570760549798248448, 1237940039285380274899124736, 1024⟩, ⟨4951760157141521099596496896, 3713820117856140824697372672, 3072⟩, ⟨9903520314283042199192993792, 6189700196426901374495621120, 5120⟩, ⟨19807040628566084398385987584, 1237940039285380274899124256, 1024⟩, ⟨39614081257132168796771975168, 30948500982134506872478105600, 25600⟩, ⟨79228162514264337593543950336, 40852021296417549071671099392, 33792⟩, ⟨158456325028528675187087900672, 79228162514264337593543950336, 66560⟩, ⟨316912650057057350374175801344, 158456325028528675187087900680, 131072⟩, ⟨633825300114114700748351602688, 158456325028528675187087900800, 131072⟩, ⟨1267650600228229401496703205376, 1109194275199700726309615304704, 917504⟩, ⟨2535301200456458802993406410752, 158456325028528675187087900736, 131072⟩, ⟨5070602400912917605986812821504, 2693757525484987478180494311424, 2228224⟩, ⟨10141204801825835211973625643008, 6496709326169675682670603927552, 5373952⟩, ⟨20282409603651670423947251286016, 10299661126854363887160713543680, 8519680⟩, ⟨40564819207303340847894502572032, 20282409603651670423947251286016, 17825792⟩, ⟨81129638414606681695789005144064, 40564819207303340847894502572040, 33554432⟩, ⟨162259276829213363391578010288128, 40564819207303340847894502572160, 33554432⟩, ⟨324518553658426726783156020576256, 40564819207303340847894502572288, 33554432⟩, ⟨649037107316853453566312041152512, 527342649694943431022628533436416, 436207616⟩, ⟨1298074214633706907132624082305024, 770731564938763476109995548868608, 637534208⟩, ⟨2596148429267413814265248164610048, 1338639033841010247980518584877056, 1107296256⟩, ⟨5192296858534827628530496329220096, 40564819207303340847894502572096, 33554432⟩, ⟨10384593717069655257060992658440192, 5232861677742130969378390831792128, 4328521728⟩, ⟨20769187434139310514121985316880384, 10425158536276958597908887161012224, 8623489024⟩, ⟨41538374868278621028243970633760768, 23405900682614027669235127984062464, 19360907264⟩, ⟨83076749736557242056487941267521536, 41578939687485924369091865136332800, 34393292800⟩, ⟨166153499473114484112975882535043072, 83076749736557242056487941267521536, 69793218560⟩, ⟨332306998946228968225951765070086144, 166153499473114484112975882535043080, 137438953472⟩, ⟨664613997892457936451903530140172288, 498460498419343452338927647605129216, 412316860416⟩, ⟨1329227995784915872903807060280344576, 830767497365572420564879412675215360, 687194767360⟩, ⟨2658455991569831745807614120560689152, 1495381495258030357016782942815387648, 1236950581248⟩, ⟨5316911983139663491615228241121378304, 2824609491042946229920590003095732224, 2336462209024⟩] [(true, 0), (true, 1), (true, 2), (true, 3), (true, 4), (true, 5), (true, 6), (true, 7), (true, 8), (true, 9), (true, 10), (true, 11), (true, 12), (true, 13), (true, 14), (true, 15), (true, 16), (true, 17), (true, 18), (true, 19), (true, 21), (true, 22), (false, 20), (true, 23), (true, 24), (true, 25), (true, 26), (true, 27), (true, 28), (true, 32), (true, 33), (true, 34), (false, 29), (false, 30), (true, 31), (true, 35), (true, 36), (true, 37), (true, 38), (false, 39), (true, 40), (true, 41)] (fun w' => rdI w' ba 0 = some (kA i) ∧ rdI w' (ba + 1) 0 = some (kB i) ∧ rdI w' wr.heap.size 0 = some (kA (i + 1)) ∧ rdI w' (wr.heap.size + 1) 0 = some (kB (i + 1)) ∧ rdI w' g off = some (kA i) ∧ rdI w' g (off + 32) = some (kB i)) (by kernel_rfl) rfl (by kernel_rfl) (by kernel_rfl) (by kernel_rfl) ⟨x1, x2, x3, x4, x5, x6⟩ (fun hA hF => ?_)
      clear x1 x2 x3 x4 x5 x6
      have fu0 : Fr noB v4.drew v4.drew := Fr.refl _ _
      refine wpAnyS_take (v := ?_) hA rfl (fun _ _ _ h => h) (Or.inl ⟨by rfl, ?_⟩) hF (fun hA => ?_)
      rotate_left
      · intro wS hSw; (try dsimp only at hSw); obtain ⟨s1, s2, s3, s4, s5, s6⟩ := hSw; first | (apply Eq.trans; apply ex_ld_id; exact rfl; exact rfl; assumption; with_reducible rfl) | (go_simp; try with_reducible rfl)
      try simp only [List.getElem_toArray, List.getElem_cons_zero, List.getElem_cons_succ, Act.put, List.setIfInBounds_toArray, List.set_cons_zero, List.set_cons_succ]
      refine wpAnyS_take (v := ?_) hA rfl (fun _ _ _ h => h) (Or.inl ⟨by rfl, ?_⟩) hF (fun hA => ?_)
      rotate_left
      · intro wS hSw; (try dsimp only at hSw); obtain ⟨s1, s2, s3, s4, s5, s6⟩ := hSw; first | (apply Eq.trans; apply ex_ld_id; exact rfl; exact rfl; assumption; with_reducible rfl) | (go_simp; try with_reducible rfl)
      try simp only [List.getElem_toArray, List.getElem_cons_zero, List.getElem_cons_succ, Act.put, List.setIfInBounds_toArray, List.set_cons_zero, List.set_cons_succ]
      refine wpAnyS_take (v := ?_) hA rfl (fun _ _ _ h => h) (Or.inl ⟨by rfl, ?_⟩) hF (fun hA => ?_)
      rotate_left
      · intro wS hSw; (try dsimp only at hSw); obtain ⟨s1, s2, s3, s4, s5, s6⟩ := hSw; first | (apply Eq.trans; apply ex_ld_id; exact rfl; exact rfl; assumption; with_reducible rfl) | (go_simp; try with_reducible rfl)
      try simp only [List.getElem_toArray, List.getElem_cons_zero, List.getElem_cons_succ, Act.put, List.setIfInBounds_toArray, List.set_cons_zero, List.set_cons_succ]
      refine wpAnyS_take (v := ?_) hA rfl (fun _ _ _ h => h) (Or.inl ⟨by rfl, ?_⟩) hF (fun hA => ?_)
      rotate_left
      · intro wS hSw; (try dsimp only at hSw); obtain ⟨s1, s2, s3, s4, s5, s6⟩ := hSw; first | (apply Eq.trans; apply ex_ld_id; exact rfl; exact rfl; assumption; with_reducible rfl) | (go_simp; try with_reducible rfl)
      try simp only [List.getElem_toArray, List.getElem_cons_zero, List.getElem_cons_succ, Act.put, List.setIfInBounds_toArray, List.set_cons_zero, List.set_cons_succ]
      refine wpAnyS_take (v := ?_) hA rfl (fun _ _ _ h => h) (Or.inl ⟨by rfl, ?_⟩) hF (fun hA => ?_)
      rotate_left
      · intro wS hSw; (try dsimp only at hSw); obtain ⟨s1, s2, s3, s4, s5, s6⟩ := hSw; first | (apply Eq.trans; apply ex_ld_id; exact rfl; exact rfl; assumption; with_reducible rfl) | (go_simp; try with_reducible rfl)
      try simp only [List.getElem_toArray, List.getElem_cons_zero, List.getElem_cons_succ, Act.put, List.setIfInBounds_toArray, List.set_cons_zero, List.set_cons_succ]
      refine wpAnyS_take (v := ?_) hA rfl (fun _ _ _ h => h) (Or.inl ⟨by rfl, ?_⟩) hF (fun hA => ?_)
      rotate_left
      · intro wS hSw; (try dsimp only at hSw); obtain ⟨s1, s2, s3, s4, s5, s6⟩ := hSw; first | (apply Eq.trans; apply ex_ld_id; exact rfl; exact rfl; assumption; with_reducible rfl) | (go_simp; try with_reducible rfl)
      try simp only [List.getElem_toArray, List.getElem_cons_zero, List.getElem_cons_succ, Act.put, List.setIfInBounds_toArray, List.set_cons_zero, List.set_cons_succ]
      refine wpAnyS_take (v := ?_) hA rfl (fun _ _ _ h => h) (Or.inl ⟨by rfl, ?_⟩) hF (fun hA => ?_)
      rotate_left
      · intro wS hSw; (try dsimp only at hSw); obtain ⟨s1, s2, s3, s4, s5, s6⟩ := hSw; first | (apply Eq.trans; apply ex_ld_id; exact rfl; exact rfl; assumption; with_reducible rfl) | (go_simp; try with_reducible rfl)
      try simp only [List.getElem_toArray, List.getElem_cons_zero, List.getElem_cons_succ, Act.put, List.setIfInBounds_toArray, List.set_cons_zero, List.set_cons_succ]
      refine wpAnyS_take (v := ?_) hA rfl (fun _ _ _ h => h) (Or.inl ⟨by rfl, ?_⟩) hF (fun hA => ?_)
      rotate_left
      · intro wS hSw; (try dsimp only at hSw); obtain ⟨s1, s2, s3, s4, s5, s6⟩ := hSw; first | (apply Eq.trans; apply ex_ld_id; exact rfl; exact rfl; assumption; with_reducible rfl) | (go_simp; try with_reducible rfl)
      try simp only [List.getElem_toArray, List.getElem_cons_zero, List.getElem_cons_succ, Act.put, List.setIfInBounds_toArray, List.set_cons_zero, List.set_cons_succ]
      refine wpAnyS_take (v := ?_) hA rfl (fun _ _ _ h => h) (Or.inl ⟨by rfl, ?_⟩) hF (fun hA => ?_)
      rotate_left
      · intro wS hSw; (try dsimp only at hSw); obtain ⟨s1, s2, s3, s4, s5, s6⟩ := hSw; first | (apply Eq.trans; apply ex_ld_id; exact rfl; exact rfl; assumption; with_reducible rfl) | (go_simp; try with_reducible rfl)
      try simp only [List.getElem_toArray, List.getElem_cons_zero, List.getElem_cons_succ, Act.put, List.setIfInBounds_toArray, List.set_cons_zero, List.set_cons_succ]
      refine wpAnyS_take (v := ?_) hA rfl (fun _ _ _ h => h) (Or.inl ⟨by rfl, ?_⟩) hF (fun hA => ?_)
      rotate_left
      · intro wS hSw; (try dsimp only at hSw); obtain ⟨s1, s2, s3, s4, s5, s6⟩ := hSw; first | (apply Eq.trans; apply ex_ld_id; exact rfl; exact rfl; assumption; with_reducible rfl) | (go_simp; try with_reducible rfl)
      try simp only [List.getElem_toArray, List.getElem_cons_zero, List.getElem_cons_succ, Act.put, List.setIfInBounds_toArray, List.set_cons_zero, List.set_cons_succ]
      refine wpAnyS_take (v := ?_) hA rfl (fun _ _ _ h => h) (Or.inl ⟨by rfl, ?_⟩) hF (fun hA => ?_)
      rotate_left
      · intro wS hSw; (try dsimp only at hSw); obtain ⟨s1, s2, s3, s4, s5, s6⟩ := hSw; first | (apply Eq.trans; apply ex_ld_id; exact rfl; exact rfl; assumption; with_reducible rfl) | (go_simp; try with_reducible rfl)
      try simp only [List.getElem_toArray, List.getElem_cons_zero, List.getElem_cons_succ, Act.put, List.setIfInBounds_toArray, List.set_cons_zero, List.set_cons_succ]
      refine wpAnyS_take (v := ?_) hA rfl (fun _ _ _ h => h) (Or.inl ⟨by rfl, ?_⟩) hF (fun hA => ?_)
      rotate_left
      · intro wS hSw; (try dsimp only at hSw); obtain ⟨s1, s2, s3, s4, s5, s6⟩ := hSw; first | (apply Eq.trans; apply ex_ld_id; exact rfl; exact rfl; assumption; with_reducible rfl) | (go_simp; try with_reducible rfl)
      try simp only [List.getElem_toArray, List.getElem_cons_zero, List.getElem_cons_succ, Act.put, List.setIfInBounds_toArray, List.set_cons_zero, List.set_cons_succ]
      refine wpAnyS_take (v := ?_) hA rfl (fun _ _ _ h => h) (Or.inl ⟨by rfl, ?_⟩) hF (fun hA => ?_)
      rotate_left
      · intro wS hSw; (try dsimp only at hSw); obtain ⟨s1, s2, s3, s4, s5, s6⟩ := hSw; first | (apply Eq.trans; apply ex_ld_id; exact rfl; exact rfl; assumption; with_reducible rfl) | (go_simp; try with_reducible rfl)
      try simp only [List.getElem_toArray, List.getElem_cons_zero, List.getElem_cons_succ, Act.put, List.setIfInBounds_toArray, List.set_cons_zero, List.set_cons_succ]
      refine wpAnyS_take (v := ?_) hA rfl (fun _ _ _ h => h) (Or.inl ⟨by rfl, ?_⟩) hF (fun hA => ?_)
      rotate_left
      · intro wS hSw; (try dsimp only at hSw); obtain ⟨s1, s2, s3, s4, s5, s6⟩ := hSw; first | (apply Eq.trans; apply ex_ld_id; exact rfl; exact rfl; assumption; with_reducible rfl) | (go_simp; try with_reducible rfl)
      try simp only [List.getElem_toArray, List.getElem_cons_zero, List.getElem_cons_succ, Act.put, List.setIfInBounds_toArray, List.set_cons_zero, List.set_cons_succ]
      refine wpAnyS_take (v := ?_) hA rfl (fun _ _ _ h => h) (Or.inl ⟨by rfl, ?_⟩) hF (fun hA => ?_)
      rotate_left
      · intro wS hSw; (try dsimp only at hSw); obtain ⟨s1, s2, s3, s4, s5, s6⟩ := hSw; first | (apply Eq.trans; apply ex_ld_id; exact rfl; exact rfl; assumption; with_reducible rfl) | (go_simp; try with_reducible rfl)
      try simp only [List.getElem_toArray, List.getElem_cons_zero, List.getElem_cons_succ, Act.put, List.setIfInBounds_toArray, List.set_cons_zero, List.set_cons_succ]
      refine wpAnyS_take (v := ?_) hA rfl (fun _ _ _ h => h) (Or.inl ⟨by rfl, ?_⟩) hF (fun hA => ?_)
      rotate_left
      · intro wS hSw; (try dsimp only at hSw); obtain ⟨s1, s2, s3, s4, s5, s6⟩ := hSw; first | (apply Eq.trans; apply ex_ld_id; exact rfl; exact rfl; assumption; with_reducible rfl) | (go_simp; try with_reducible rfl)
      try simp only [List.getElem_toArray, List.getElem_cons_zero, List.getElem_cons_succ, Act.put, List.setIfInBounds_toArray, List.set_cons_zero, List.set_cons_succ]
      refine wpAnyS_take (v := ?_) hA rfl (fun _ _ _ h => h) (Or.inl ⟨by rfl, ?_⟩) hF (fun hA => ?_)
      rotate_left
      · intro wS hSw; (try dsimp only at hSw); obtain ⟨s1, s2, s3, s4, s5, s6⟩ := hSw; first | (apply Eq.trans; apply ex_ld_id; exact rfl; exact rfl; assumption; with_reducible rfl) | (go_simp; try with_reducible rfl)
      try simp only [List.getElem_toArray, List.getElem_cons_zero, List.getElem_cons_succ, Act.put, List.setIfInBounds_toArray, List.set_cons_zero, List.set_cons_succ]
      refine wpAnyS_take (v := ?_) hA rfl (fun _ _ _ h => h) (Or.inl ⟨by rfl, ?_⟩) hF (fun hA => ?_)
      rotate_left
      · intro wS hSw; (try dsimp only at hSw); obtain ⟨s1, s2, s3, s4, s5, s6⟩ := hSw; first | (apply Eq.trans; apply ex_ld_id; exact rfl; exact rfl; assumption; with_reducible rfl) | (go_simp; try with_reducible rfl)
      try simp only [List.getElem_toArray, List.getElem_cons_zero, List.getElem_cons_succ, Act.put, List.setIfInBounds_toArray, List.set_cons_zero, List.set_cons_succ]
      refine wpAnyS_take (v := ?_) hA rfl (fun _ _ _ h => h) (Or.inl ⟨by rfl, ?_⟩) hF (fun hA => ?_)
      rotate_left
      · intro wS hSw; (try dsimp only at hSw); obtain ⟨s1, s2, s3, s4, s5, s6⟩ := hSw; first | (apply Eq.trans; apply ex_ld_id; exact rfl; exact rfl; assumption; with_reducible rfl) | (go_simp; try with_reducible rfl)
      try simp only [List.getElem_toArray, List.getElem_cons_zero, List.getElem_cons_succ, Act.put, List.setIfInBounds_toArray, List.set_cons_zero, List.set_cons_succ]
      refine wpAnyS_take (v := ?_) hA rfl (fun _ _ _ h => h) (Or.inl ⟨by rfl, ?_⟩) hF (fun hA => ?_)
      rotate_left
      · intro wS hSw; (try dsimp only at hSw); obtain ⟨s1, s2, s3, s4, s5, s6⟩ := hSw; first | (apply Eq.trans; apply ex_ld_id; exact rfl; exact rfl; assumption; with_reducible rfl) | (go_simp; try with_reducible rfl)
      try simp only [List.getElem_toArray, List.getElem_cons_zero, List.getElem_cons_succ, Act.put, List.setIfInBounds_toArray, List.set_cons_zero, List.set_cons_succ]
      refine wpAnyS_take (v := ?_) hA rfl (fun _ _ _ h => h) (Or.inl ⟨by rfl, ?_⟩) hF (fun hA => ?_)
      rotate_left
      · intro wS hSw; (try dsimp only at hSw); obtain ⟨s1, s2, s3, s4, s5, s6⟩ := hSw; first | (apply Eq.trans; apply ex_ld_id; exact rfl; exact rfl; assumption; with_reducible rfl) | (go_simp; try with_reducible rfl)
      try simp only [List.getElem_toArray, List.getElem_cons_zero, List.getElem_cons_succ, Act.put, List.setIfInBounds_toArray, List.set_cons_zero, List.set_cons_succ]
      refine wpAnyS_take (v := ?_) hA rfl (fun _ _ _ h => h) (Or.inl ⟨by rfl, ?_⟩) hF (fun hA => ?_)
      rotate_left
      · intro wS hSw; (try dsimp only at hSw); obtain ⟨s1, s2, s3, s4, s5, s6⟩ := hSw; first | (apply Eq.trans; apply ex_ld_id; exact rfl; exact rfl; assumption; with_reducible rfl) | (go_simp; try with_reducible rfl)
      try simp only [List.getElem_toArray, List.getElem_cons_zero, List.getElem_cons_succ, Act.put, List.setIfInBounds_toArray, List.set_cons_zero, List.set_cons_succ]
      refine wpAnyS_one hA rfl (fun K' hK => ?_)
      rw [if_pos (by rfl)]
      go_simp
      go_at_call 18
      refine (depth_any _ D Fd (KG (i + 1)) (d4.fr0 fu0) (kA (i + 1))).mono ?_
      rintro e u1 ⟨rfl, hu1⟩
      have fu1 := fu0.step0 hu1
      refine hK.out _ _ (keepF _ fu1) (fun hA => ?_)
      clear hK K'
      replace hF := keepF _ fu1
      rw [hdep]
      refine wpAnyS_take (v := ?_) hA rfl (fun _ _ _ h => h) (Or.inl ⟨by rfl, ?_⟩) hF (fun hA => ?_)
      rotate_left
      · intro wS hSw; (try dsimp only at hSw); obtain ⟨s1, s2, s3, s4, s5, s6⟩ := hSw; first | (apply Eq.trans; apply ex_ld_id; exact rfl; exact rfl; assumption; with_reducible rfl) | (go_simp; try with_reducible rfl)
      try simp only [List.getElem_toArray, List.getElem_cons_zero, List.getElem_cons_succ, Act.put, List.setIfInBounds_toArray, List.set_cons_zero, List.set_cons_succ]
      refine wpAnyS_take (v := ?_) hA rfl (fun _ _ _ h => h) (Or.inl ⟨by rfl, ?_⟩) hF (fun hA => ?_)
      rotate_left
      · intro wS hSw; (try dsimp only at hSw); obtain ⟨s1, s2, s3, s4, s5, s6⟩ := hSw; first | (apply Eq.trans; apply ex_ld_id; exact rfl; exact rfl; assumption; with_reducible rfl) | (go_simp; try with_reducible rfl)
      try simp only [List.getElem_toArray, List.getElem_cons_zero, List.getElem_cons_succ, Act.put, List.setIfInBounds_toArray, List.set_cons_zero, List.set_cons_succ]
      refine wpAnyS_take (v := ?_) hA rfl (fun _ _ _ h => h) (Or.inl ⟨by rfl, ?_⟩) hF (fun hA => ?_)
      rotate_left
      · intro wS hSw; (try dsimp only at hSw); obtain ⟨s1, s2, s3, s4, s5, s6⟩ := hSw; first | (apply Eq.trans; apply ex_ld_id; exact rfl; exact rfl; assumption; with_reducible rfl) | (go_simp; try with_reducible rfl)
      try simp only [List.getElem_toArray, List.getElem_cons_zero, List.getElem_cons_succ, Act.put, List.setIfInBounds_toArray, List.set_cons_zero, List.set_cons_succ]
      refine wpAnyS_take (v := ?_) hA rfl (fun _ _ _ h => h) (Or.inl ⟨by rfl, ?_⟩) hF (fun hA => ?_)
      rotate_left
      · intro wS hSw; (try dsimp only at hSw); obtain ⟨s1, s2, s3, s4, s5, s6⟩ := hSw; first | (apply Eq.trans; apply ex_ld_id; exact rfl; exact rfl; assumption; with_reducible rfl) | (go_simp; try with_reducible rfl)
      try simp only [List.getElem_toArray, List.getElem_cons_zero, List.getElem_cons_succ, Act.put, List.setIfInBounds_toArray, List.set_cons_zero, List.set_cons_succ]
      refine wpAnyS_take (v := ?_) hA rfl (fun _ _ _ h => h) (Or.inl ⟨by rfl, ?_⟩) hF (fun hA => ?_)
      rotate_left
      · intro wS hSw; (try dsimp only at hSw); obtain ⟨s1, s2, s3, s4, s5, s6⟩ := hSw; first | (apply Eq.trans; apply ex_ld_id; exact rfl; exact rfl; assumption; with_reducible rfl) | (go_simp; try with_reducible rfl)
      try simp only [List.getElem_toArray, List.getElem_cons_zero, List.getElem_cons_succ, Act.put, List.setIfInBounds_toArray, List.set_cons_zero, List.set_cons_succ]
      refine wpAnyS_take (v := ?_) hA rfl (fun _ _ _ h => h) (Or.inl ⟨by rfl, ?_⟩) hF (fun hA => ?_)
      rotate_left
      · intro wS hSw; (try dsimp only at hSw); obtain ⟨s1, s2, s3, s4, s5, s6⟩ := hSw; first | (apply Eq.trans; apply ex_ld_id; exact rfl; exact rfl; assumption; with_reducible rfl) | (go_simp; try with_reducible rfl)
      try simp only [List.getElem_toArray, List.getElem_cons_zero, List.getElem_cons_succ, Act.put, List.setIfInBounds_toArray, List.set_cons_zero, List.set_cons_succ]
      refine wpAnyS_take (v := ?_) hA rfl (fun _ _ _ h => h) (Or.inl ⟨by rfl, ?_⟩) hF (fun hA => ?_)
      rotate_left
      · intro wS hSw; (try dsimp only at hSw); obtain ⟨s1, s2, s3, s4, s5, s6⟩ := hSw; first | (apply Eq.trans; apply ex_ld_id; exact rfl; exact rfl; assumption; with_reducible rfl) | (go_simp; try with_reducible rfl)
      try simp only [List.getElem_toArray, List.getElem_cons_zero, List.getElem_cons_succ, Act.put, List.setIfInBounds_toArray, List.set_cons_zero, List.set_cons_succ]
      refine wpAnyS_take (v := ?_) hA rfl (fun _ _ _ h => h) (Or.inl ⟨by rfl, ?_⟩) hF (fun hA => ?_)
      rotate_left
      · intro wS hSw; (try dsimp only at hSw); obtain ⟨s1, s2, s3, s4, s5, s6⟩ := hSw; first | (apply Eq.trans; apply ex_ld_id; exact rfl; exact rfl; assumption; with_reducible rfl) | (go_simp; try with_reducible rfl)
      try simp only [List.getElem_toArray, List.getElem_cons_zero, List.getElem_cons_succ, Act.put, List.setIfInBounds_toArray, List.set_cons_zero, List.set_cons_succ]
      refine wpAnyS_take (v := ?_) hA rfl (fun _ _ _ h => h) (Or.inl ⟨by rfl, ?_⟩) hF (fun hA => ?_)
      rotate_left
      · intro wS hSw; (try dsimp only at hSw); obtain ⟨s1, s2, s3, s4, s5, s6⟩ := hSw; first | (apply Eq.trans; apply ex_ld_id; exact rfl; exact rfl; assumption; with_reducible rfl) | (go_simp; try with_reducible rfl)
      try simp only [List.getElem_toArray, List.getElem_cons_zero, List.getElem_cons_succ, Act.put, List.setIfInBounds_toArray, List.set_cons_zero, List.set_cons_succ]
      refine wpAnyS_one hA rfl (fun K' hK => ?_)
      rw [if_pos (by rfl)]
      refine step_runW _ _ (ex_bs2_at (x := kA (i + 1)) (y := kB (i + 1)) rfl rfl rfl) ?_
      have hu4 : Fr noB u1 (u1.alloc (rowo [kA (i + 1), kB (i + 1)])) := (Fr.refl noB u1).alloc _
      have fu4 := fu1.step0 hu4
      have sl4 := sl_new u1 [kA (i + 1), kB (i + 1)]
      refine hK.out _ _ (keepF _ fu4) (fun hA => ?_)
      clear hK K'
      replace hF := keepF _ fu4
      refine wpAnyS_one hA rfl (fun K' hK => ?_)
      rw [if_pos (by rfl)]
      go_simp
      go_at_call 20
      refine (ancestors_any _ D Fd (KG (i + 1)) (d4.fr0 fu4) _ _ _ [kA (i + 1), kB (i + 1)] rfl sl4 (by simp)).mono ?_
      rintro e u5 ⟨l5, ⟨A5, c5, rfl, ho5, hu5⟩, hr5, hm5, hb5⟩
      have fu5 := fu4.step0 hu5
      refine hK.out _ _ (keepF _ fu5) (fun hA => ?_)
      clear hK K'
      replace hF := keepF _ fu5
      have hl5 : ((l5.length : Nat) : Int) = 5 + 2 * (i : Int) := by
        rw [hinv2.all (swoD _) hr5 hm5, KG_len]; omega
      refine wpAnyS_take (v := ?_) hA rfl (fun _ _ _ h => h) (Or.inl ⟨by rfl, ?_⟩) hF (fun hA => ?_)
      rotate_left
      · intro wS hSw; (try dsimp only at hSw); obtain ⟨s1, s2, s3, s4, s5, s6⟩ := hSw; first | (apply Eq.trans; apply ex_ld_id; exact rfl; exact rfl; assumption; with_reducible rfl) | (go_simp; try with_reducible rfl)
      try simp only [List.getElem_toArray, List.getElem_cons_zero, List.getElem_cons_succ, Act.put, List.setIfInBounds_toArray, List.set_cons_zero, List.set_cons_succ]
      refine wpAnyS_take (v := ?_) hA rfl (fun _ _ _ h => h) (Or.inl ⟨by rfl, ?_⟩) hF (fun hA => ?_)
      rotate_left
      · intro wS hSw; (try dsimp only at hSw); obtain ⟨s1, s2, s3, s4, s5, s6⟩ := hSw; first | (apply Eq.trans; apply ex_ld_id; exact rfl; exact rfl; assumption; with_reducible rfl) | (go_simp; try with_reducible rfl)
      try simp only [List.getElem_toArray, List.getElem_cons_zero, List.getElem_cons_succ, Act.put, List.setIfInBounds_toArray, List.set_cons_zero, List.set_cons_succ]
      refine wpAnyS_take (v := ?_) hA rfl (fun _ _ _ h => h) (Or.inl ⟨by rfl, ?_⟩) hF (fun hA => ?_)
      rotate_left
      · intro wS hSw; (try dsimp only at hSw); obtain ⟨s1, s2, s3, s4, s5, s6⟩ := hSw; first | (apply Eq.trans; apply ex_ld_id; exact rfl; exact rfl; assumption; with_reducible rfl) | (go_simp; try with_reducible rfl)
      try simp only [List.getElem_toArray, List.getElem_cons_zero, List.getElem_cons_succ, Act.put, List.setIfInBounds_toArray, List.set_cons_zero, List.set_cons_succ]
      refine wpAnyS_take (v := ?_) hA rfl (fun _ _ _ h => h) (Or.inl ⟨by rfl, ?_⟩) hF (fun hA => ?_)
      rotate_left
      · intro wS hSw; (try dsimp only at hSw); obtain ⟨s1, s2, s3, s4, s5, s6⟩ := hSw; first | (apply Eq.trans; apply ex_ld_id; exact rfl; exact rfl; assumption; with_reducible rfl) | (go_simp; try with_reducible rfl)
      try simp only [List.getElem_toArray, List.getElem_cons_zero, List.getElem_cons_succ, Act.put, List.setIfInBounds_toArray, List.set_cons_zero, List.set_cons_succ]
      refine wpAnyS_take (v := ?_) hA rfl (fun _ _ _ h => h) (Or.inl ⟨by rfl, ?_⟩) hF (fun hA => ?_)
      rotate_left
      · intro wS hSw; (try dsimp only at hSw); obtain ⟨s1, s2, s3, s4, s5, s6⟩ := hSw; first | (apply Eq.trans; apply ex_ld_id; exact rfl; exact rfl; assumption; with_reducible rfl) | (go_simp; try with_reducible rfl)
      try simp only [List.getElem_toArray, List.getElem_cons_zero, List.getElem_cons_succ, Act.put, List.setIfInBounds_toArray, List.set_cons_zero, List.set_cons_succ]
      refine wpAnyS_one hA rfl (fun K' hK => ?_)
      rw [if_pos (by rfl)]
      go_simp
      go_at_call 26
      refine (heads_any _ D Fd (KG (i + 1)) (d4.fr0 fu5)).mono ?_
      rintro e u7 ⟨l7, ⟨A7, c7, rfl, ho7, hu7⟩, hr7, hm7, hb7⟩
      have fu7 := fu5.step0 hu7
      refine hK.out _ _ (keepF _ fu7) (fun hA => ?_)
      clear hK K'
      replace hF := keepF _ fu7
      have hl7 : l7.length = 2 := hinv2.heads hr7 hm7
      rw [hl7]
      refine wpAnyS_take (v := ?_) hA rfl (fun _ _ _ h => h) (Or.inl ⟨by rfl, ?_⟩) hF (fun hA => ?_)
      rotate_left
      · intro wS hSw; (try dsimp only at hSw); obtain ⟨s1, s2, s3, s4, s5, s6⟩ := hSw; first | (apply Eq.trans; apply ex_ld_id; exact rfl; exact rfl; assumption; with_reducible rfl) | (go_simp; try with_reducible rfl)
      try simp only [List.getElem_toArray, List.getElem_cons_zero, List.getElem_cons_succ, Act.put, List.setIfInBounds_toArray, List.set_cons_zero, List.set_cons_succ]
      refine wpAnyS_take (v := ?_) hA rfl (fun _ _ _ h => h) (Or.inl ⟨by rfl, ?_⟩) hF (fun hA => ?_)
      rotate_left
      · intro wS hSw; (try dsimp only at hSw); obtain ⟨s1, s2, s3, s4, s5, s6⟩ := hSw; first | (apply Eq.trans; apply ex_ld_id; exact rfl; exact rfl; assumption; with_reducible rfl) | (go_simp; try with_reducible rfl)
      try simp only [List.getElem_toArray, List.getElem_cons_zero, List.getElem_cons_succ, Act.put, List.setIfInBounds_toArray, List.set_cons_zero, List.set_cons_succ]
      refine wpAnyS_end hA rfl ?_
      simp only [List.drop_succ_cons, List.drop_zero]
      clear keepF hF
      have F7 : Fr noB v3 u7.drew := (hf4.drew.step0 fu7).drew
      have Y1 := bxI_fr B3.1 F7 (by simp [noB])
      have Y2 := bxI_fr B3.2.1 F7 (by simp [noB])
      have Y3 := bxI_fr B3.2.2.1 F7 (by simp [noB])
      have Y4 := bxI_fr B3.2.2.2 F7 (by simp [noB])
      have x3 := bxI_rd Y3
      have x4 := bxI_rd Y4
      obtain ⟨a1, a2, a3⟩ := putB_fr Y1 (kA (i + 1))
      have Z2 := bxI_fr Y2 a1 (fun e => by have : ba + 1 = ba := e; omega)
      have Z3 := bxI_fr Y3 a1 (fun e => by have : wr.heap.size = ba := e; omega)
      have Z4 := bxI_fr Y4 a1 (fun e => by have : wr.heap.size + 1 = ba := e; omega)
      obtain ⟨b1, b2, b3⟩ := putB_fr Z2 (kB (i + 1))
      have a4 := bxI_fr a3 b1 (fun e => by have : ba = ba + 1 := e; omega)
      have hL7 : DagL w u7.drew D (KG (i + 1)) (fun b => betw ba (ba + 2) b ∨ betw wr.heap.size (wr.heap.size + 2) b) := DagL.fr0 ⟨Fd, hI⟩ F7
      have hL8 := (hL7.frS a1 (fun b hb => ⟨.inl ⟨by have : b = _ := hb; omega, by have : b = _ := hb; omega⟩, by have : b = _ := hb; omega⟩)).frS b1 (fun b hb => ⟨.inl ⟨by have : b = _ := hb; omega, by have : b = _ := hb; omega⟩, by have : b = _ := hb; omega⟩)
      clear keep nS hm5 hr5 hb5 ho5 hu5 hm7 hr7 hb7 ho7 hu7 sl4 hl5 hl7 hdep m0 m1 m2 w1' w2' t1 c1 c2 w3' c3 c4 eC eD ea1 ea2 fx fy fz ex ey ez hE1 hE2 hg1 hg2 hg3 B0 B1 B2 B4 d4 dG hW s1 s2 fu0 hu1 fu1 hu4 fu4 fu5 fu7 hL7 hI hf4 F7 hinv hinv2 hD6 hG
      go_wp2_with fail
      refine wp_region_M 3 4 [⟨10633823966279326983230456482242756608, 128, 0⟩, ⟨21267647932558653966460912964485513216, 256, 0⟩, ⟨0, 10633823966279326983230456482242756624, 1⟩, ⟨0, 21267647932558653966460912964485513248, 7⟩] [(true, 0), (true, 1), (false, 2)] (fun w' => rdI w' wr.heap.size 0 = some (kA (i + 1)) ∧ rdI w' (wr.heap.size + 1) 0 = some (kB (i + 1))) (by kernel_rfl) rfl (by kernel_rfl) (by kernel_rfl) (by kernel_rfl) ⟨x3, x4⟩ (fun hA hF => ?_)
      refine wpAnyS_take (v := ?_) hA rfl (fun _ _ _ h => h) (Or.inl ⟨by rfl, ?_⟩) hF (fun hA => ?_)
      rotate_left
      · intro wS hSw; (try dsimp only at hSw); obtain ⟨s1, s2⟩ := hSw; first | (apply Eq.trans; apply ex_ld_id; exact rfl; exact rfl; assumption; with_reducible rfl) | (go_simp; try with_reducible rfl)
      try simp only [List.getElem_toArray, List.getElem_cons_zero, List.getElem_cons_succ, Act.put, List.setIfInBounds_toArray, List.set_cons_zero, List.set_cons_succ]
      refine wpAnyS_take (v := ?_) hA rfl (fun _ _ _ h => h) (Or.inl ⟨by rfl, ?_⟩) hF (fun hA => ?_)
      rotate_left
      · intro wS hSw; (try dsimp only at hSw); obtain ⟨s1, s2⟩ := hSw; first | (apply Eq.trans; apply ex_ld_id; exact rfl; exact rfl; assumption; with_reducible rfl) | (go_simp; try with_reducible rfl)
      try simp only [List.getElem_toArray, List.getElem_cons_zero, List.getElem_cons_succ, Act.put, List.setIfInBounds_toArray, List.set_cons_zero, List.set_cons_succ]
      refine wpAnyS_one hA rfl (fun K' hK => ?_)
      rw [if_pos (by rfl)]
      refine step_skipW _ (ex_st_at rfl rfl rfl Y1) ?_
      refine hK.out _ _ ⟨bxI_rd Z3, bxI_rd Z4⟩ (fun hA => ?_)
      clear hK K'
      refine wpAnyS_end hA rfl ?_
      simp only [List.drop_succ_cons, List.drop_zero]
      clear hF x3 x4
      clear a1 b1 a2 b2
      go_wp2_with fail
      go_roundg (r + 1 - (i + 1))
      case measure => omega
      case rel => exact ⟨lba, i + 1, by first | rfl | simp | (rw [show wrap64 ((i : Int) + 1) = (i : Int) + 1 by unfold wrap64; omega]; rfl), rfl, by omega, hL8.mono (fun b hb => .inl hb), a4, b3⟩
    · have ei : i = r + 1 := by omega
      subst ei
      have qra := bxI_rd qa
      obtain ⟨Fd, hI⟩ := hDi
      have dG := hI.at_
      have hG := KG_len (r + 1)
      have hGi : (((KG (r + 1)).length : Nat) : Int) = 3 + 2 * (1 + (r : Int)) := by rw [hG]; omega
      have HGI := Lib.hid hGi
      have m1 : IntKind.i64.wrap (2 * (1 + (r : Int))) = 2 * (1 + r) := by rw [IntKind.wrap_i64]; omega
      have m2 : IntKind.i64.wrap (3 + 2 * (1 + (r : Int))) = 3 + 2 * (1 + r) := by rw [IntKind.wrap_i64]; omega
      have m3 : wrap64 (2 * (1 + (r : Int))) = 2 * (1 + r) := by unfold wrap64; omega
      have m4 : wrap64 (3 + 2 * (1 + (r : Int))) = 3 + 2 * (1 + r) := by unfold wrap64; omega
      have h99 : hasG (KG (r + 1)) (id2 99 0) = false := kn_99 (r + 1) (by omega)
      have hnl : ¬ (r : Int) + 1 < 1 + (r : Int) := by omega
      clear hG hGi hin qa qb ew
      go_wp2_with fail
      go_at_call 13
      refine (len_any wr D Fd _ dG).mono ?_
      rintro e u1 ⟨rfl, hu1⟩
      rw [HGI.out]
      have v1 := rdI_fr qra (rdI_lt qra) hu1 (by simp [noB])
      go_wp2_with fail
      go_at_call 22
      refine (bases_any u1 D Fd _ (dG.fr0 hu1) (kA (r + 1)) (id2 99 0)).mono ?_
      rintro e u2 ⟨l, ⟨A2, c2, rfl, ho2, hf2⟩, hr2, hm2, hb2⟩
      have el : l = [] := by
        cases l with
        | nil => rfl
        | cons z l =>
          have := (anc_has hinv.ok ((hm2 z).1 (by simp)).1.2).1
          rw [h99] at this; cases this
      subst el
      have v2 := rdI_fr v1 (rdI_lt v1) hf2 (by simp [noB])
      clear hm2
      go_wp2_with fail
      go_at_call 22
      refine (bases_any u2 D Fd _ ((dG.fr0 hu1).fr0 hf2) (kA (r + 1)) (kA (r + 1))).mono ?_
      rintro e u3 ⟨l, ⟨A3, c3, rfl, ho3, hf3⟩, hr3, hm3, hb3⟩
      have el : l = [kA (r + 1)] := bases_anc hinv.ok (anc_refl hinv.ha) hr3 hm3
      subst el
      clear hm3
      go_wp2
      go_ret
      exact ⟨rfl, (((hI.fr.step0 hu1).step0 hf2).step0 hf3).below⟩
end Go.Proofs.Ytchiclnnoealdaa
