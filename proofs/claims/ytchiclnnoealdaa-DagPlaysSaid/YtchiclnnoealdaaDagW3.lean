/- Contract: Add. -/
import Derived.Test.YtchiclnnoealdaaDagW2
namespace Go.Proofs.Ytchiclnnoealdaa
open Go.RowKit Go.Maps Go.Sort
set_option linter.unusedVariables false
set_option linter.unusedSimpArgs false

/-- the blocks of a Dag behind a call -/
def grF (F : Nat → Prop) (w w' : World) : Nat → Prop := fun b => F b ∨ (w.heap.size ≤ b ∧ b < w'.heap.size)
def AddTo (w : World) (D : Nat) (F : Nat → Prop) (G : Dg) (x : ID) (ps : List ID) (e : Ending) (w' : World) : Prop :=
  e = .returned (.int .i64 ((addG G x ps).1 : Nat)) ∧ DagAt w' D (grF F w w') (addG G x ps).2 ∧ Fr F w w'

section
variable {w w' : World} {D A K : Nat} {kv : List (ID × Value)} {ks : List ID} {F : Nat → Prop} {G : Dg}
theorem DagA.grow (h : DagA w D A K kv ks F G) {F' : Nat → Prop} (hF : ∀ b, F b → F' b) (hl : ∀ b, F' b → b < w.heap.size) : DagA w D A K kv ks F' G :=
  ⟨h.blk, h.all, h.kids, h.ne, hF _ h.fD, hF _ h.fA, hF _ h.fK, h.keys, h.par, fun x ps hp => by obtain ⟨B, c, h1, h2, h3⟩ := h.vals x ps hp; exact ⟨B, c, h1, h2, h3.mono hF⟩, hl, h.ok, h.le⟩
theorem DagA.same (h : DagA w D A K kv ks F G) (f : Fr noB w w') : DagAt w' D (grF F w w') G :=
  ⟨A, K, kv, ks, (h.fr0 f).grow (fun b hb => .inl hb) (fun b hb => hb.elim (fun h' => Nat.lt_of_lt_of_le (h.lt b h') f.size) (fun h' => h'.2))⟩
end

/-- cells stay where only maps (and new blocks) turn -/
theorem Sl.frM {M : Nat → Prop} {w w' : World} {A : Option Addr} {xs : List Value} (hs : Sl w A xs) (f : Fr M w w') (hM : ∀ b, b < w.heap.size → M b → ∃ kv, mpI w b = some kv) : Sl w' A xs := by
  intro hne
  obtain ⟨g, off, e, hg, hc⟩ := hs hne
  have hnm : ¬ M g := by
    intro hm
    obtain ⟨kv, hk⟩ := hM g hg hm
    cases xs with
    | nil => exact hne rfl
    | cons u us =>
      have := hc 0 u rfl
      rw [mp_cell hk] at this
      cases this
  exact ⟨g, off, e, Nat.lt_of_lt_of_le hg f.size, fun j u hu => (World.cell?_of_block (w := w) (a := ⟨g, off + j, none⟩) (f.block g hg hnm)).trans (hc j u hu)⟩
theorem rdI_ne {w : World} {g o r : Nat} {x : ID} {kv : List (ID × Value)} (h : rdI w g o = some x) (hm : mpI w r = some kv) : g ≠ r := by
  rintro rfl
  have hl : 0 < (bv x.1).length := by simp [x.2]
  have := rdI_rd h 0 _ (List.getElem?_eq_getElem hl)
  rw [mp_cell hm] at this
  cases this
theorem putL_new {kv : List (ID × Value)} {x : ID} (h : look kv x = none) (v : Value) : putL kv x v = kv ++ [(x, v)] := by
  unfold putL; rw [h]; simp
theorem look_snoc (kv : List (ID × Value)) (x : ID) (v : Value) (y : ID) : look (kv ++ [(x, v)]) y = (look kv y).or (if x = y then some v else none) := by
  unfold look
  rw [List.find?_append]
  cases List.find? (fun p => decide (p.1 = y)) kv with
  | some p => simp
  | none => by_cases h : x = y <;> simp [h]
def twoB (A K : Nat) : Nat → Prop := fun b => b = A ∨ b = K

/-- one commit more -/
theorem DagA.more {w w' : World} {D A K : Nat} {kv : List (ID × Value)} {ks ks' : List ID} {F : Nat → Prop} {G : Dg} (h : DagA w D A K kv ks F G) (hle : G.length < 1000000) {x : ID} {ps : List ID}
    (hr : rightL x ps = true) (hp : parents G x = none) (ha : ∀ p ∈ ps, hasG G p = true) (f : Fr (twoB A K) w w') {B : Option Addr} {c : Nat}
    (hA : mpI w' A = some (putL kv x (nodeV B ps.length c (upD (depthG G) ps)))) (hK : mpI w' K = some (setV ks')) (hks : ∀ y, y ∈ ks' ↔ y ∈ ks ∨ y ∈ ps)
    (hS : Sl w' B (idc ps)) (hO : Off B (fun b => w.heap.size ≤ b ∧ b < w'.heap.size)) : DagAt w' D (grF F w w') ((x, ps) :: G) := by
  have hM : ∀ b, b < w.heap.size → twoB A K b → ∃ kv, mpI w b = some kv := by
    rintro b _ (rfl | rfl)
    · exact ⟨_, h.all⟩
    · exact ⟨_, h.kids⟩
  have nDA : D ≠ A := mp_ne h.all h.blk
  have nDK : D ≠ K := mp_ne h.kids h.blk
  have hlk := h.look0 hp
  rw [putL_new hlk] at hA
  refine ⟨A, K, _, ks', h.blk.fr f (by rintro (e | e); exact nDA e; exact nDK e), hA, hK, h.ne, .inl h.fD, .inl h.fA, .inl h.fK, ?_, ?_, ?_, ?_, ?_, ?_⟩
  · simp [h.keys]
  · intro y
    rw [hks, h.par]
    constructor
    · rintro (⟨p, hp1, hp2⟩ | h1)
      · exact ⟨p, List.mem_cons_of_mem _ hp1, hp2⟩
      · exact ⟨(x, ps), List.mem_cons_self .., h1⟩
    · rintro ⟨p, hp1, hp2⟩
      rcases List.mem_cons.1 hp1 with rfl | hp1
      · exact .inr hp2
      · exact .inl ⟨p, hp1, hp2⟩
  · intro y q hq
    rw [look_snoc]
    unfold parents at hq
    split at hq
    · rename_i e
      subst e
      injection hq with hq
      subst hq
      refine ⟨B, c, ?_, hS, hO.mono (fun b hb => .inr hb)⟩
      rw [hlk]
      simp [depthG]
    · rename_i e
      obtain ⟨B', c', h1, h2, h3⟩ := h.vals y q hq
      refine ⟨B', c', ?_, h2.frM f hM, h3.mono (fun b hb => .inl hb)⟩
      rw [h1]
      simp [depthG, e]
  · intro b hb
    exact hb.elim (fun h' => Nat.lt_of_lt_of_le (h.lt b h') f.size) (fun h' => h'.2)
  · exact ⟨hr, by simp [hasG, hp], ha, h.ok⟩
  · simp only [List.length_cons]; omega

def AddR (G : Dg) (ps : List ID) (wA : World) (N : Nat) (sv : Value) (gk : Nat) (iv : Value) (wr : World) : Prop :=
  ∃ k : Nat, iv = .int .i64 (k : Int) ∧ gk = ps.length - k ∧ Fr (oneB N) wA wr ∧ Blk wr N 68 [sv, .int .i64 (upD (depthG G) (ps.take k) : Nat)] ∧ (∀ p ∈ ps.take k, hasG G p = true) ∧ k ≤ ps.length
theorem upD_take (f : ID → Nat) (ps : List ID) (k : Nat) (p : ID) (h : ps[k]? = some p) : upD f (ps.take (k + 1)) = max (upD f (ps.take k)) (f p + 1) := by
  rw [List.take_add_one, h]
  simp [upD, List.foldl_append]
theorem AddR.next {G : Dg} {ps : List ID} {wA wa : World} {N k : Nat} {sv dv : Value} {p : ID} {d : Int} (f : Fr (oneB N) wA wa) (hb : Blk wa N 68 [sv, dv]) (hk : ∀ p ∈ ps.take k, hasG G p = true) (hp : ps[k]? = some p) (hG : hasG G p = true)
    (hd : d = ((upD (depthG G) (ps.take (k + 1)) : Nat) : Int)) : AddR G ps wA N sv (ps.length - (k + 1)) (.int .i64 ((k : Int) + 1)) (wa.setCell ⟨N, 1, none⟩ (.int .i64 d)) := by
  subst hd
  refine ⟨k + 1, by simp, rfl, f.setCell (fun _ => by simp [oneB]) _, hb.set 1 _, ?_, ?_⟩
  · intro q hq
    rw [List.take_add_one, hp] at hq
    rcases List.mem_append.1 hq with h | h
    · exact hk q h
    · simp at h; rw [h]; exact hG
  · exact (List.getElem?_eq_some_iff.1 hp).1
def KidR (ks ps : List ID) (wA : World) (K : Nat) (gk : Nat) (iv : Value) (wr : World) : Prop :=
  ∃ (k : Nat) (ks' : List ID), iv = .int .i64 (k : Int) ∧ gk = ps.length - k ∧ Fr (oneB K) wA wr ∧ mpI wr K = some (setV ks') ∧ (∀ y, y ∈ ks' ↔ y ∈ ks ∨ y ∈ ps.take k) ∧ k ≤ ps.length

set_option maxRecDepth 100000 in
set_option maxHeartbeats 2000000 in
theorem add_any (w : World) (D : Nat) (F : Nat → Prop) (G : Dg) (h : DagAt w D F G) (hle : G.length < 1000000) (x : ID) (P : Option Addr) (c n : Nat) (ps : List ID) (hn : ps.length = n) (hs : Sl w P (idc ps)) (hb : ps.length ≤ 1000000000000) :
    Calls Try.prog 10 #[.pointer (some ⟨D, 0, none⟩), encI x, .slice P n c] w (AddTo w D F G x ps) := by
  subst hn
  obtain ⟨A, K, kv, ks, h⟩ := h
  have F1 : Fr noB w (w.alloc (ido x)) := (Fr.refl noB w).alloc _
  go_enter Try.func10, Try.ntmps10
  go_wp2_with fail
  go_at_call 30
  refine (right_any _ x P c _ ps rfl (hs.fr0 F1) hb).mono ?_
  rintro e w2 ⟨rfl, hf2⟩
  have F2 := F1.step0 hf2
  cases hr : rightL x ps with
  | false =>
    go_wp2
    go_ret
    have ea : addG G x ps = (1, G) := by simp [addG, hr]
    rw [AddTo, ea]
    exact ⟨rfl, h.same F2, F2.any⟩
  | true =>
    obtain ⟨B, cB, hn, hB, hBF⟩ := h.node x
    have hsm := h.isSome x
    have rx : rdI w2.drew w.heap.size 0 = some x := by rw [rdI_drew]; exact rdI_fr (rdI_new w x) (by simp) hf2 (by simp [noB])
    have h2 := h.fr0 F2.drew
    have d0 := h2.c0
    have da := h2.all
    go_wp2_with fail
    refine wp_region_N 11 (fun w' => w'.cell? ⟨D, 0, none⟩ = some (.map (some A)) ∧ mpI w' A = some kv ∧ rdI w' w.heap.size 0 = some x) (by kernel_rfl) (by kernel_rfl) ⟨d0, da, rx⟩ (fun hA hF => ?_)
    refine wpAnyN_take (i := 0) (v := ?_) hA rfl (by decide) (by kernel_rfl) (by kernel_rfl) (fun _ _ _ h => h) (Or.inl ⟨by rfl, ?_⟩) hF (fun hA => ?_)
    rotate_left
    · intro wS hSw; (try dsimp only at hSw); obtain ⟨s1, s2, s3⟩ := hSw; first | (apply Eq.trans; apply ex_ld_id; exact rfl; exact rfl; assumption; with_reducible rfl) | (go_simp; try with_reducible rfl)
    try simp only [List.getElem_toArray, List.getElem_cons_zero, List.getElem_cons_succ, Act.put, List.setIfInBounds_toArray, List.set_cons_zero, List.set_cons_succ]
    refine wpAnyN_take (i := 1) (v := ?_) hA rfl (by decide) (by kernel_rfl) (by kernel_rfl) (fun _ _ _ h => h) (Or.inl ⟨by rfl, ?_⟩) hF (fun hA => ?_)
    rotate_left
    · intro wS hSw; (try dsimp only at hSw); obtain ⟨s1, s2, s3⟩ := hSw; first | (apply Eq.trans; apply ex_ld_id; exact rfl; exact rfl; assumption; with_reducible rfl) | (go_simp; try with_reducible rfl)
    try simp only [List.getElem_toArray, List.getElem_cons_zero, List.getElem_cons_succ, Act.put, List.setIfInBounds_toArray, List.set_cons_zero, List.set_cons_succ]
    refine wpAnyN_take (i := 2) (v := ?_) hA rfl (by decide) (by kernel_rfl) (by kernel_rfl) (fun _ _ _ h => h) (Or.inl ⟨by rfl, ?_⟩) hF (fun hA => ?_)
    rotate_left
    · intro wS hSw; (try dsimp only at hSw); obtain ⟨s1, s2, s3⟩ := hSw; first | (apply Eq.trans; apply ex_ld_id; exact rfl; exact rfl; assumption; with_reducible rfl) | (go_simp; try with_reducible rfl)
    try simp only [List.getElem_toArray, List.getElem_cons_zero, List.getElem_cons_succ, Act.put, List.setIfInBounds_toArray, List.set_cons_zero, List.set_cons_succ]
    refine wpAnyN_take (i := 3) (v := ?_) hA rfl (by decide) (by kernel_rfl) (by kernel_rfl) (fun _ _ _ h => h) (Or.inl ⟨by rfl, ?_⟩) hF (fun hA => ?_)
    rotate_left
    · intro wS hSw; (try dsimp only at hSw); obtain ⟨s1, s2, s3⟩ := hSw; first | (apply Eq.trans; apply ex_ld_id; exact rfl; exact rfl; assumption; with_reducible rfl) | (go_simp; try with_reducible rfl)
    try simp only [List.getElem_toArray, List.getElem_cons_zero, List.getElem_cons_succ, Act.put, List.setIfInBounds_toArray, List.set_cons_zero, List.set_cons_succ]
    refine wpAnyN_take (i := 4) (v := ?_) hA rfl (by decide) (by kernel_rfl) (by kernel_rfl) (fun _ _ _ h => h) (Or.inl ⟨by rfl, ?_⟩) hF (fun hA => ?_)
    rotate_left
    · intro wS hSw; (try dsimp only at hSw); obtain ⟨s1, s2, s3⟩ := hSw; first | (apply Eq.trans; apply ex_ld_id; exact rfl; exact rfl; assumption; with_reducible rfl) | (go_simp; try with_reducible rfl)
    try simp only [List.getElem_toArray, List.getElem_cons_zero, List.getElem_cons_succ, Act.put, List.setIfInBounds_toArray, List.set_cons_zero, List.set_cons_succ]
    refine wpAnyN_take (i := 5) (v := ?_) hA rfl (by decide) (by kernel_rfl) (by kernel_rfl) (fun _ _ _ h => h) (Or.inl ⟨by rfl, ?_⟩) hF (fun hA => ?_)
    rotate_left
    · intro wS hSw; (try dsimp only at hSw); obtain ⟨s1, s2, s3⟩ := hSw; first | (apply Eq.trans; apply ex_ld_id; exact rfl; exact rfl; assumption; with_reducible rfl) | (go_simp; try with_reducible rfl)
    try simp only [List.getElem_toArray, List.getElem_cons_zero, List.getElem_cons_succ, Act.put, List.setIfInBounds_toArray, List.set_cons_zero, List.set_cons_succ]
    refine wpAnyN_take (i := 6) (v := ?_) hA rfl (by decide) (by kernel_rfl) (by kernel_rfl) (fun _ _ _ h => h) (Or.inl ⟨by rfl, ?_⟩) hF (fun hA => ?_)
    rotate_left
    · intro wS hSw; (try dsimp only at hSw); obtain ⟨s1, s2, s3⟩ := hSw; first | (apply Eq.trans; apply ex_ld_id; exact rfl; exact rfl; assumption; with_reducible rfl) | (go_simp; try with_reducible rfl)
    try simp only [List.getElem_toArray, List.getElem_cons_zero, List.getElem_cons_succ, Act.put, List.setIfInBounds_toArray, List.set_cons_zero, List.set_cons_succ]
    refine wpAnyN_take (i := 7) (v := ?_) hA rfl (by decide) (by kernel_rfl) (by kernel_rfl) (fun _ _ _ h => h) (Or.inl ⟨by rfl, ?_⟩) hF (fun hA => ?_)
    rotate_left
    · intro wS hSw; (try dsimp only at hSw); obtain ⟨s1, s2, s3⟩ := hSw; first | (apply Eq.trans; apply ex_ld_id; exact rfl; exact rfl; assumption; with_reducible rfl) | (go_simp; try with_reducible rfl)
    try simp only [List.getElem_toArray, List.getElem_cons_zero, List.getElem_cons_succ, Act.put, List.setIfInBounds_toArray, List.set_cons_zero, List.set_cons_succ]
    refine wpAnyN_take (i := 8) (v := ?_) hA rfl (by decide) (by kernel_rfl) (by kernel_rfl) (fun _ _ _ h => h) (Or.inl ⟨by rfl, ?_⟩) hF (fun hA => ?_)
    rotate_left
    · intro wS hSw; (try dsimp only at hSw); obtain ⟨s1, s2, s3⟩ := hSw; first | (apply Eq.trans; apply ex_ld_id; exact rfl; exact rfl; assumption; with_reducible rfl) | (go_simp; try with_reducible rfl)
    try simp only [List.getElem_toArray, List.getElem_cons_zero, List.getElem_cons_succ, Act.put, List.setIfInBounds_toArray, List.set_cons_zero, List.set_cons_succ]
    refine wpAnyN_one (i := 9) hA (by kernel_rfl) (by decide) rfl (fun K hK => ?_)
    go_simp
    have F3 : Fr noB w (w2.alloc (.cells #[.slice none 0 0, .int .i64 0] 68)).drew := (F2.alloc _).drew
    have lx : w.heap.size < w2.heap.size := rdI_lt rx
    have h3 := h.fr0 F3
    refine hK.out _ _ ⟨h3.c0, h3.all, by rw [rdI_drew, rdI_old _ _ _ _ lx, ← rdI_drew]; exact rx⟩ (fun hA => ?_)
    clear hK K
    refine wpAnyN_one (i := 10) hA (by kernel_rfl) (by decide) rfl (fun K hK => ?_)
    go_simp
    have F4 : Fr noB w (w2.alloc (.cells #[.slice B ((parents G x).getD []).length cB, .int .i64 (depthG G x)] 68)).drew := (F2.alloc _).drew
    have h4 := h.fr0 F4
    have rx4 : rdI (w2.alloc (.cells #[.slice B ((parents G x).getD []).length cB, .int .i64 (depthG G x)] 68)).drew w.heap.size 0 = some x := by rw [rdI_drew, rdI_old _ _ _ _ lx, ← rdI_drew]; exact rx
    have b4 : Blk (w2.alloc (.cells #[.slice B ((parents G x).getD []).length cB, .int .i64 (depthG G x)] 68)).drew w2.heap.size 68 [.slice B ((parents G x).getD []).length cB, .int .i64 (depthG G x)] := Blk.new w2 68 _
    refine hK.out _ _ ⟨h4.c0, h4.all, rx4⟩ (fun hA => ?_)
    clear hK K
    refine wpAnyN_end rfl (by kernel_rfl) ?_
    simp only [List.drop_succ_cons, List.drop_zero]
    generalize ew : (w2.alloc (.cells #[.slice B ((parents G x).getD []).length cB, .int .i64 (depthG G x)] 68)).drew = w4 at F4 h4 rx4 b4 ⊢
    have lN : w2.heap.size < w4.heap.size := b4.lt
    clear ew h3 F3 d0 da rx h2 hF
    cases hp : parents G x with
    | some q =>
      have hG : hasG G x = true := by simp [hasG, hp]
      rw [hp] at b4 hB
      simp only [Option.getD_some] at b4 hB
      have k0 := Blk.cell b4 0
      simp only [List.getElem?_cons_zero] at k0
      have hq := okG_par h.ok hp
      rw [hG]
      go_wp2_with fail
      go_at_call 31
      refine (equal_any _ B P cB c _ _ q ps rfl rfl (hB.fr0 F4) (hs.fr0 F4) (by omega) hb).mono ?_
      rintro e w5 ⟨rfl, hf5⟩
      have F5 := F4.step0 hf5
      by_cases hqp : q = ps
      · have ea : addG G x ps = (0, G) := by simp [addG, hr, hp, hqp]
        have hd : decide (q = ps) = true := by simp [hqp]
        have HQ := Lib.hid hqp
        clear hqp
        go_wp2
        go_ret
        rw [AddTo, ea]
        exact ⟨rfl, h.same F5, F5.any⟩
      · have ea : addG G x ps = (5, G) := by simp [addG, hr, hp, hqp]
        have hd : decide (q = ps) = false := by simp [hqp]
        have HQ := Lib.hid hqp
        clear hqp
        go_wp2
        go_ret
        rw [AddTo, ea]
        exact ⟨rfl, h.same F5, F5.any⟩
    | none =>
      have hG : hasG G x = false := by simp [hasG, hp]
      rw [hG]
      go_wp2_with fail
      go_at_call 32
      refine (idclone_any _ P c ps _ rfl (hs.fr0 F4) hb).mono ?_
      rintro e w5 ⟨A5, c5, rfl, ho5, hf5⟩
      have F5 := F4.step0 hf5
      have F6 : Fr noB w (w5.alloc (.cells #[.slice A5 ps.length c5, .int .i64 1] 68)) := F5.alloc _
      have b6 : Blk (w5.alloc (.cells #[.slice A5 ps.length c5, .int .i64 1] 68)) w5.heap.size 68 [.slice A5 ps.length c5, .int .i64 1] := Blk.new w5 68 _
      have lw5 : w.heap.size ≤ w5.heap.size := F5.size
      go_wp2_with fail
      go_loopg [40] ps.length (fun gk iv wr => AddR G ps (w5.alloc (.cells #[.slice A5 ps.length c5, .int .i64 1] 68)) w5.heap.size (.slice A5 ps.length c5) gk iv wr)
      case atStart => exact ⟨0, rfl, by simp, Fr.refl _ _, b6, by simp, by omega⟩
      case round =>
        obtain ⟨k, rfl, rfl, hf, hbk, hk, hkl⟩ := hrel
        have F7 : Fr noB w wr := F6.step1 hf lw5
        by_cases hlt : k < ps.length
        · obtain ⟨g, off, rfl⟩ := hs.ad (by omega)
          have r0 := hs.id k hlt
          have r1 : rdI wr g (off + k * 32) = some ps[k] := rdI_fr r0 (rdI_lt r0) F7 (by simp [noB])
          have i1 : (k : Int) < ps.length := by omega
          have p0 : (0 : Int) ≤ (k : Int) := by omega
          generalize ea : ps[k] = pa at r1
          have EA := Lib.hid ea
          have HK := Lib.hid hk
          clear ea hk r0
          obtain ⟨B', cB', hn', _, _⟩ := h.node pa
          have hsm' := h.isSome pa
          have F8 : Fr noB w (wr.alloc (ido pa)).drew := (F7.alloc _).drew
          have h8 := h.fr0 F8
          have rp : rdI (wr.alloc (ido pa)).drew wr.heap.size 0 = some pa := by rw [rdI_drew, rdI_new]
          clear hn hsm
          go_wp2_with fail
          refine wp_region_N 11 (fun w' => w'.cell? ⟨D, 0, none⟩ = some (.map (some A)) ∧ mpI w' A = some kv ∧ rdI w' wr.heap.size 0 = some pa) (by kernel_rfl) (by kernel_rfl) ⟨h8.c0, h8.all, rp⟩ (fun hA hF => ?_)
          refine wpAnyN_take (i := 0) (v := ?_) hA rfl (by decide) (by kernel_rfl) (by kernel_rfl) (fun _ _ _ h => h) (Or.inl ⟨by rfl, ?_⟩) hF (fun hA => ?_)
          rotate_left
          · intro wS hSw; (try dsimp only at hSw); obtain ⟨s1, s2, s3⟩ := hSw; first | (apply Eq.trans; apply ex_ld_id; exact rfl; exact rfl; assumption; with_reducible rfl) | (go_simp; try with_reducible rfl)
          try simp only [List.getElem_toArray, List.getElem_cons_zero, List.getElem_cons_succ, Act.put, List.setIfInBounds_toArray, List.set_cons_zero, List.set_cons_succ]
          refine wpAnyN_take (i := 1) (v := ?_) hA rfl (by decide) (by kernel_rfl) (by kernel_rfl) (fun _ _ _ h => h) (Or.inl ⟨by rfl, ?_⟩) hF (fun hA => ?_)
          rotate_left
          · intro wS hSw; (try dsimp only at hSw); obtain ⟨s1, s2, s3⟩ := hSw; first | (apply Eq.trans; apply ex_ld_id; exact rfl; exact rfl; assumption; with_reducible rfl) | (go_simp; try with_reducible rfl)
          try simp only [List.getElem_toArray, List.getElem_cons_zero, List.getElem_cons_succ, Act.put, List.setIfInBounds_toArray, List.set_cons_zero, List.set_cons_succ]
          refine wpAnyN_take (i := 2) (v := ?_) hA rfl (by decide) (by kernel_rfl) (by kernel_rfl) (fun _ _ _ h => h) (Or.inl ⟨by rfl, ?_⟩) hF (fun hA => ?_)
          rotate_left
          · intro wS hSw; (try dsimp only at hSw); obtain ⟨s1, s2, s3⟩ := hSw; first | (apply Eq.trans; apply ex_ld_id; exact rfl; exact rfl; assumption; with_reducible rfl) | (go_simp; try with_reducible rfl)
          try simp only [List.getElem_toArray, List.getElem_cons_zero, List.getElem_cons_succ, Act.put, List.setIfInBounds_toArray, List.set_cons_zero, List.set_cons_succ]
          refine wpAnyN_take (i := 3) (v := ?_) hA rfl (by decide) (by kernel_rfl) (by kernel_rfl) (fun _ _ _ h => h) (Or.inl ⟨by rfl, ?_⟩) hF (fun hA => ?_)
          rotate_left
          · intro wS hSw; (try dsimp only at hSw); obtain ⟨s1, s2, s3⟩ := hSw; first | (apply Eq.trans; apply ex_ld_id; exact rfl; exact rfl; assumption; with_reducible rfl) | (go_simp; try with_reducible rfl)
          try simp only [List.getElem_toArray, List.getElem_cons_zero, List.getElem_cons_succ, Act.put, List.setIfInBounds_toArray, List.set_cons_zero, List.set_cons_succ]
          refine wpAnyN_take (i := 4) (v := ?_) hA rfl (by decide) (by kernel_rfl) (by kernel_rfl) (fun _ _ _ h => h) (Or.inl ⟨by rfl, ?_⟩) hF (fun hA => ?_)
          rotate_left
          · intro wS hSw; (try dsimp only at hSw); obtain ⟨s1, s2, s3⟩ := hSw; first | (apply Eq.trans; apply ex_ld_id; exact rfl; exact rfl; assumption; with_reducible rfl) | (go_simp; try with_reducible rfl)
          try simp only [List.getElem_toArray, List.getElem_cons_zero, List.getElem_cons_succ, Act.put, List.setIfInBounds_toArray, List.set_cons_zero, List.set_cons_succ]
          refine wpAnyN_take (i := 5) (v := ?_) hA rfl (by decide) (by kernel_rfl) (by kernel_rfl) (fun _ _ _ h => h) (Or.inl ⟨by rfl, ?_⟩) hF (fun hA => ?_)
          rotate_left
          · intro wS hSw; (try dsimp only at hSw); obtain ⟨s1, s2, s3⟩ := hSw; first | (apply Eq.trans; apply ex_ld_id; exact rfl; exact rfl; assumption; with_reducible rfl) | (go_simp; try with_reducible rfl)
          try simp only [List.getElem_toArray, List.getElem_cons_zero, List.getElem_cons_succ, Act.put, List.setIfInBounds_toArray, List.set_cons_zero, List.set_cons_succ]
          refine wpAnyN_take (i := 6) (v := ?_) hA rfl (by decide) (by kernel_rfl) (by kernel_rfl) (fun _ _ _ h => h) (Or.inl ⟨by rfl, ?_⟩) hF (fun hA => ?_)
          rotate_left
          · intro wS hSw; (try dsimp only at hSw); obtain ⟨s1, s2, s3⟩ := hSw; first | (apply Eq.trans; apply ex_ld_id; exact rfl; exact rfl; assumption; with_reducible rfl) | (go_simp; try with_reducible rfl)
          try simp only [List.getElem_toArray, List.getElem_cons_zero, List.getElem_cons_succ, Act.put, List.setIfInBounds_toArray, List.set_cons_zero, List.set_cons_succ]
          refine wpAnyN_take (i := 7) (v := ?_) hA rfl (by decide) (by kernel_rfl) (by kernel_rfl) (fun _ _ _ h => h) (Or.inl ⟨by rfl, ?_⟩) hF (fun hA => ?_)
          rotate_left
          · intro wS hSw; (try dsimp only at hSw); obtain ⟨s1, s2, s3⟩ := hSw; first | (apply Eq.trans; apply ex_ld_id; exact rfl; exact rfl; assumption; with_reducible rfl) | (go_simp; try with_reducible rfl)
          try simp only [List.getElem_toArray, List.getElem_cons_zero, List.getElem_cons_succ, Act.put, List.setIfInBounds_toArray, List.set_cons_zero, List.set_cons_succ]
          refine wpAnyN_take (i := 8) (v := ?_) hA rfl (by decide) (by kernel_rfl) (by kernel_rfl) (fun _ _ _ h => h) (Or.inl ⟨by rfl, ?_⟩) hF (fun hA => ?_)
          rotate_left
          · intro wS hSw; (try dsimp only at hSw); obtain ⟨s1, s2, s3⟩ := hSw; first | (apply Eq.trans; apply ex_ld_id; exact rfl; exact rfl; assumption; with_reducible rfl) | (go_simp; try with_reducible rfl)
          try simp only [List.getElem_toArray, List.getElem_cons_zero, List.getElem_cons_succ, Act.put, List.setIfInBounds_toArray, List.set_cons_zero, List.set_cons_succ]
          refine wpAnyN_one (i := 9) hA (by kernel_rfl) (by decide) rfl (fun K hK => ?_)
          go_simp
          have F9 : Fr noB w ((wr.alloc (ido pa)).alloc (.cells #[.slice none 0 0, .int .i64 0] 68)).drew := ((F7.alloc _).alloc _).drew
          have h9 := h.fr0 F9
          refine hK.out _ _ ⟨h9.c0, h9.all, by simp⟩ (fun hA => ?_)
          clear hK K
          refine wpAnyN_one (i := 10) hA (by kernel_rfl) (by decide) rfl (fun K hK => ?_)
          go_simp
          have fa : Fr (oneB w5.heap.size) (w5.alloc (.cells #[.slice A5 ps.length c5, .int .i64 1] 68)) ((wr.alloc (ido pa)).alloc (.cells #[.slice B' ((parents G pa).getD []).length cB', .int .i64 (depthG G pa)] 68)).drew := ((hf.alloc _).alloc _).drew
          have Fa : Fr noB w ((wr.alloc (ido pa)).alloc (.cells #[.slice B' ((parents G pa).getD []).length cB', .int .i64 (depthG G pa)] 68)).drew := ((F7.alloc _).alloc _).drew
          have ha := h.fr0 Fa
          have bN : Blk ((wr.alloc (ido pa)).alloc (.cells #[.slice B' ((parents G pa).getD []).length cB', .int .i64 (depthG G pa)] 68)).drew w5.heap.size 68 [.slice A5 ps.length c5, .int .i64 (upD (depthG G) (ps.take k) : Nat)] := (hbk.alloc _).alloc _
          have bX : Blk ((wr.alloc (ido pa)).alloc (.cells #[.slice B' ((parents G pa).getD []).length cB', .int .i64 (depthG G pa)] 68)).drew (wr.heap.size + 1) 68 [.slice B' ((parents G pa).getD []).length cB', .int .i64 (depthG G pa)] := by
            have := Blk.new (wr.alloc (ido pa)) 68 [.slice B' ((parents G pa).getD []).length cB', .int .i64 (depthG G pa)]
            rw [World.size_alloc] at this
            exact this
          refine hK.out _ _ ⟨ha.c0, ha.all, by simp⟩ (fun hA => ?_)
          clear hK K
          refine wpAnyN_end rfl (by kernel_rfl) ?_
          simp only [List.drop_succ_cons, List.drop_zero]
          generalize ew : ((wr.alloc (ido pa)).alloc (.cells #[.slice B' ((parents G pa).getD []).length cB', .int .i64 (depthG G pa)] 68)).drew = wa at fa Fa ha bN bX ⊢
          clear ew h9 F9 hF h8 F8 rp r1
          cases hpa : hasG G pa with
          | false =>
            have ea : addG G x ps = (110, G) := by
              have : ps.all (hasG G) = false := by
                rw [List.all_eq_false]
                exact ⟨pa, by rw [← EA.out]; exact List.getElem_mem hlt, by simp [hpa]⟩
              simp [addG, hr, hp, this]
            go_wp2
            go_ret
            rw [AddTo, ea]
            exact ⟨rfl, h.same Fa, Fa.any⟩
          | true =>
            have k1 := Blk.cell bN 1
            have k2 := Blk.cell bX 1
            have k3 := Blk.frozen bN 1
            simp only [List.getElem?_cons_succ, List.getElem?_cons_zero] at k1 k2
            have hd1 : upD (depthG G) (ps.take k) ≤ G.length + 1 := upD_le _ _ (depth_le G) _
            have hd2 := depth_le G pa
            have hpk : ps[k]? = some pa := by rw [List.getElem?_eq_getElem hlt, EA.out]
            have hup := Lib.hid (upD_take (depthG G) ps k pa hpk)
            go_wp2
            case inl hmx =>
              go_roundg (ps.length - (k + 1))
              case measure => omega
              case rel => exact AddR.next fa bN HK.out hpk hpa (by have := hup.out; omega)
            case inr hmx =>
              go_roundg (ps.length - (k + 1))
              case measure => omega
              case rel => exact AddR.next fa bN HK.out hpk hpa (by have := hup.out; omega)
        · have i1 : ¬ (k : Int) < ps.length := by omega
          have ek : k = ps.length := by omega
          subst ek
          rw [List.take_length] at hk hbk
          have h7 := h.fr0 F7
          have hlk := h.look0 hp
          have HK := Lib.hid hk
          clear hk hn hsm
          have rx7 : rdI wr w.heap.size 0 = some x := rdI_fr rx4 (by omega) ((hf5.alloc _).step1 hf (by have := hf5.size; omega)) (by simp [noB])
          clear rx4
          obtain ⟨wl, ewl⟩ : ∃ wl, wl = wr := ⟨_, rfl⟩
          subst ewl
          go_wp2_with fail
          go_loopg [65] ps.length (fun gk iv w' => KidR ks ps wl K gk iv w')
          case atStart => exact ⟨0, ks, rfl, by simp, Fr.refl _ _, h7.kids, by simp, by omega⟩
          case round =>
            obtain ⟨k, ks', rfl, rfl, hg, hgm, hgk, hkl⟩ := hrel
            have nDK : D ≠ K := mp_ne h7.kids h7.blk
            have nDA : D ≠ A := mp_ne h7.all h7.blk
            have c1 : wr.cell? ⟨D, 1, none⟩ = some (.map (some K)) := by
              have := Blk.cell (h7.blk.fr hg (fun e => nDK e)) 1
              simpa using this
            have c0 : wr.cell? ⟨D, 0, none⟩ = some (.map (some A)) := by
              have := Blk.cell (h7.blk.fr hg (fun e => nDK e)) 0
              simpa using this
            have ma : mpI wr A = some kv := mpI_fr h7.all hg (fun e => h7.ne e)
            have rx8 : rdI wr w.heap.size 0 = some x := rdI_fr rx7 (rdI_lt rx7) hg (fun e => rdI_ne rx7 h7.kids e)
            have bN : Blk wr w5.heap.size 68 [.slice A5 ps.length c5, .int .i64 (upD (depthG G) ps : Nat)] := hbk.fr hg (fun e => mp_ne h7.kids hbk e)
            by_cases hlt : k < ps.length
            · obtain ⟨g, off, rfl⟩ := hs.ad (by omega)
              have r0 := hs.id k hlt
              have r1 : rdI wl g (off + k * 32) = some ps[k] := rdI_fr r0 (rdI_lt r0) F7 (by simp [noB])
              have r2 : rdI wr g (off + k * 32) = some ps[k] := rdI_fr r1 (rdI_lt r1) hg (fun e => rdI_ne r1 h7.kids e)
              have i2 : (k : Int) < ps.length := by omega
              have p0 : (0 : Int) ≤ (k : Int) := by omega
              generalize ea : ps[k] = pa at r2
              have EA := Lib.hid ea
              have HG := Lib.hid hgk
              have HS := Lib.hid hs
              clear ea hgk r1 r0 c0 ma hs
              have rp : rdI (wr.alloc (ido pa)).drew wr.heap.size 0 = some pa := by rw [rdI_drew, rdI_new]
              have cp : (wr.alloc (ido pa)).drew.cell? ⟨D, 1, none⟩ = some (.map (some K)) := by
                have := Blk.cell ((h7.blk.fr hg (fun e => nDK e)).fr (((Fr.refl noB wr).alloc (ido pa)).drew) (by simp [noB])) 1
                simpa using this
              have fp : Fr (oneB K) wl (wr.alloc (ido pa)).drew := (hg.alloc _).drew
              have mp : mpI (wr.alloc (ido pa)).drew K = some (setV ks') := by rw [mpI_drew, mpI_old _ _ _ (mpI_lt hgm)]; exact hgm
              go_wp2_with fail
              refine wp_region_N 5 (fun w' => w'.cell? ⟨D, 1, none⟩ = some (.map (some K)) ∧ rdI w' wr.heap.size 0 = some pa) (by kernel_rfl) (by kernel_rfl) ⟨cp, rp⟩ (fun hA hF => ?_)
              refine wpAnyN_take (i := 0) (v := ?_) hA rfl (by decide) (by kernel_rfl) (by kernel_rfl) (fun _ _ _ h => h) (Or.inl ⟨by rfl, ?_⟩) hF (fun hA => ?_)
              rotate_left
              · intro wS hSw; (try dsimp only at hSw); obtain ⟨s1, s2⟩ := hSw; first | (apply Eq.trans; apply ex_ld_id; exact rfl; exact rfl; assumption; with_reducible rfl) | (go_simp; try with_reducible rfl)
              try simp only [List.getElem_toArray, List.getElem_cons_zero, List.getElem_cons_succ, Act.put, List.setIfInBounds_toArray, List.set_cons_zero, List.set_cons_succ]
              refine wpAnyN_take (i := 1) (v := ?_) hA rfl (by decide) (by kernel_rfl) (by kernel_rfl) (fun _ _ _ h => h) (Or.inl ⟨by rfl, ?_⟩) hF (fun hA => ?_)
              rotate_left
              · intro wS hSw; (try dsimp only at hSw); obtain ⟨s1, s2⟩ := hSw; first | (apply Eq.trans; apply ex_ld_id; exact rfl; exact rfl; assumption; with_reducible rfl) | (go_simp; try with_reducible rfl)
              try simp only [List.getElem_toArray, List.getElem_cons_zero, List.getElem_cons_succ, Act.put, List.setIfInBounds_toArray, List.set_cons_zero, List.set_cons_succ]
              refine wpAnyN_take (i := 2) (v := ?_) hA rfl (by decide) (by kernel_rfl) (by kernel_rfl) (fun _ _ _ h => h) (Or.inl ⟨by rfl, ?_⟩) hF (fun hA => ?_)
              rotate_left
              · intro wS hSw; (try dsimp only at hSw); obtain ⟨s1, s2⟩ := hSw; first | (apply Eq.trans; apply ex_ld_id; exact rfl; exact rfl; assumption; with_reducible rfl) | (go_simp; try with_reducible rfl)
              try simp only [List.getElem_toArray, List.getElem_cons_zero, List.getElem_cons_succ, Act.put, List.setIfInBounds_toArray, List.set_cons_zero, List.set_cons_succ]
              refine wpAnyN_take (i := 3) (v := ?_) hA rfl (by decide) (by kernel_rfl) (by kernel_rfl) (fun _ _ _ h => h) (Or.inl ⟨by rfl, ?_⟩) hF (fun hA => ?_)
              rotate_left
              · intro wS hSw; (try dsimp only at hSw); obtain ⟨s1, s2⟩ := hSw; first | (apply Eq.trans; apply ex_ld_id; exact rfl; exact rfl; assumption; with_reducible rfl) | (go_simp; try with_reducible rfl)
              try simp only [List.getElem_toArray, List.getElem_cons_zero, List.getElem_cons_succ, Act.put, List.setIfInBounds_toArray, List.set_cons_zero, List.set_cons_succ]
              refine wpAnyN_take (i := 4) (v := ?_) hA rfl (by decide) (by kernel_rfl) (by kernel_rfl) (fun _ _ _ h => h) (Or.inl ⟨by rfl, ?_⟩) hF (fun hA => ?_)
              rotate_left
              · intro wS hSw; (try dsimp only at hSw); obtain ⟨s1, s2⟩ := hSw; first | (apply Eq.trans; apply ex_ld_id; exact rfl; exact rfl; assumption; with_reducible rfl) | (go_simp; try with_reducible rfl)
              try simp only [List.getElem_toArray, List.getElem_cons_zero, List.getElem_cons_succ, Act.put, List.setIfInBounds_toArray, List.set_cons_zero, List.set_cons_succ]
              refine wpAnyN_end rfl (by kernel_rfl) ?_
              simp only [List.drop_succ_cons, List.drop_zero]
              generalize ew : (wr.alloc (ido pa)).drew = wp at cp fp mp ⊢
              clear ew hF rp
              obtain ⟨u1, u2, u3, u4⟩ := mput_all Try.underlying60 mp pa (.bool true)
              go_wp2
              go_roundg (ps.length - (k + 1))
              case measure => omega
              case rel =>
                refine ⟨k + 1, if pa ∈ ks' then ks' else ks' ++ [pa], by simp, rfl, fp.trans u3 (fun _ _ h => h), by rw [u2, put_setV], fun y => ?_, by omega⟩
                have hpk : ps[k]? = some pa := by rw [List.getElem?_eq_getElem hlt, EA.out]
                rw [List.take_add_one, hpk]
                have := HG.out y
                have e2 : y ∈ (if pa ∈ ks' then ks' else ks' ++ [pa]) ↔ y ∈ ks' ∨ y = pa := by
                  split
                  · rename_i hm
                    exact ⟨.inl, fun h => h.elim id (fun e => by rw [e]; exact hm)⟩
                  · simp
                rw [e2, this]
                simp only [Option.toList_some, List.mem_append, List.mem_singleton, or_assoc]
            · have i2 : ¬ (k : Int) < ps.length := by omega
              have ek : k = ps.length := by omega
              subst ek
              rw [List.take_length] at hgk
              have HG := Lib.hid hgk
              clear hgk
              have k0 := Blk.cell bN 0
              have k1 := Blk.cell bN 1
              simp only [List.getElem?_cons_succ, List.getElem?_cons_zero] at k0 k1
              go_wp2_with fail
              refine wp_region_N 6 (fun w' => w'.cell? ⟨D, 0, none⟩ = some (.map (some A)) ∧ rdI w' w.heap.size 0 = some x ∧ w'.cell? ⟨w5.heap.size, 0, none⟩ = some (.slice A5 ps.length c5) ∧ w'.cell? ⟨w5.heap.size, 1, none⟩ = some (.int .i64 (upD (depthG G) ps : Nat))) (by kernel_rfl) (by kernel_rfl) ⟨c0, by rw [rdI_drew]; exact rx8, k0, k1⟩ (fun hA hF => ?_)
              refine wpAnyN_take (i := 0) (v := ?_) hA rfl (by decide) (by kernel_rfl) (by kernel_rfl) (fun _ _ _ h => h) (Or.inl ⟨by rfl, ?_⟩) hF (fun hA => ?_)
              rotate_left
              · intro wS hSw; (try dsimp only at hSw); obtain ⟨s1, s2, s3, s4⟩ := hSw; first | (apply Eq.trans; apply ex_ld_id; exact rfl; exact rfl; assumption; with_reducible rfl) | (go_simp; try with_reducible rfl)
              try simp only [List.getElem_toArray, List.getElem_cons_zero, List.getElem_cons_succ, Act.put, List.setIfInBounds_toArray, List.set_cons_zero, List.set_cons_succ]
              refine wpAnyN_take (i := 1) (v := ?_) hA rfl (by decide) (by kernel_rfl) (by kernel_rfl) (fun _ _ _ h => h) (Or.inl ⟨by rfl, ?_⟩) hF (fun hA => ?_)
              rotate_left
              · intro wS hSw; (try dsimp only at hSw); obtain ⟨s1, s2, s3, s4⟩ := hSw; first | (apply Eq.trans; apply ex_ld_id; exact rfl; exact rfl; assumption; with_reducible rfl) | (go_simp; try with_reducible rfl)
              try simp only [List.getElem_toArray, List.getElem_cons_zero, List.getElem_cons_succ, Act.put, List.setIfInBounds_toArray, List.set_cons_zero, List.set_cons_succ]
              refine wpAnyN_take (i := 2) (v := ?_) hA rfl (by decide) (by kernel_rfl) (by kernel_rfl) (fun _ _ _ h => h) (Or.inl ⟨by rfl, ?_⟩) hF (fun hA => ?_)
              rotate_left
              · intro wS hSw; (try dsimp only at hSw); obtain ⟨s1, s2, s3, s4⟩ := hSw; first | (apply Eq.trans; apply ex_ld_id; exact rfl; exact rfl; assumption; with_reducible rfl) | (go_simp; try with_reducible rfl)
              try simp only [List.getElem_toArray, List.getElem_cons_zero, List.getElem_cons_succ, Act.put, List.setIfInBounds_toArray, List.set_cons_zero, List.set_cons_succ]
              refine wpAnyN_take (i := 3) (v := ?_) hA rfl (by decide) (by kernel_rfl) (by kernel_rfl) (fun _ _ _ h => h) (Or.inl ⟨by rfl, ?_⟩) hF (fun hA => ?_)
              rotate_left
              · intro wS hSw; (try dsimp only at hSw); obtain ⟨s1, s2, s3, s4⟩ := hSw; first | (apply Eq.trans; apply ex_ld_id; exact rfl; exact rfl; assumption; with_reducible rfl) | (go_simp; try with_reducible rfl)
              try simp only [List.getElem_toArray, List.getElem_cons_zero, List.getElem_cons_succ, Act.put, List.setIfInBounds_toArray, List.set_cons_zero, List.set_cons_succ]
              refine wpAnyN_take (i := 4) (v := ?_) hA rfl (by decide) (by kernel_rfl) (by kernel_rfl) (fun _ _ _ h => h) (Or.inl ⟨by rfl, ?_⟩) hF (fun hA => ?_)
              rotate_left
              · intro wS hSw; (try dsimp only at hSw); obtain ⟨s1, s2, s3, s4⟩ := hSw; first | (apply Eq.trans; apply ex_ld_id; exact rfl; exact rfl; assumption; with_reducible rfl) | (go_simp; try with_reducible rfl)
              try simp only [List.getElem_toArray, List.getElem_cons_zero, List.getElem_cons_succ, Act.put, List.setIfInBounds_toArray, List.set_cons_zero, List.set_cons_succ]
              refine wpAnyN_take (i := 5) (v := ?_) hA rfl (by decide) (by kernel_rfl) (by kernel_rfl) (fun _ _ _ h => h) (Or.inl ⟨by rfl, ?_⟩) hF (fun hA => ?_)
              rotate_left
              · intro wS hSw; (try dsimp only at hSw); obtain ⟨s1, s2, s3, s4⟩ := hSw; first | (apply Eq.trans; apply ex_ld_id; exact rfl; exact rfl; assumption; with_reducible rfl) | (go_simp; try with_reducible rfl)
              try simp only [List.getElem_toArray, List.getElem_cons_zero, List.getElem_cons_succ, Act.put, List.setIfInBounds_toArray, List.set_cons_zero, List.set_cons_succ]
              refine wpAnyN_end rfl (by kernel_rfl) ?_
              simp only [List.drop_succ_cons, List.drop_zero]
              have ma2 : mpI wr.drew A = some kv := by rw [mpI_drew]; exact ma
              have hgm2 : mpI wr.drew K = some (setV ks') := by rw [mpI_drew]; exact hgm
              obtain ⟨u1, u2, u3, u4⟩ := mput_all Try.underlying63 ma2 x (nodeV A5 ps.length c5 (upD (depthG G) ps))
              go_wp2
              go_ret
              have hall : ∀ p ∈ ps, hasG G p = true := HK.out
              have ea : addG G x ps = (0, (x, ps) :: G) := by
                have : ps.all (hasG G) = true := List.all_eq_true.2 hall
                simp [addG, hr, hp, this]
              rw [AddTo, ea]
              have f2 : Fr (twoB A K) w (mput 63 wr.drew A x (nodeV A5 ps.length c5 (upD (depthG G) ps))) :=
                ((F7.any (M := twoB A K)).trans (hg.drew) (fun b _ hb => .inr hb)).trans u3 (fun b _ hb => .inl hb)
              have oS : Off A5 (fun b => w4.heap.size ≤ b ∧ b < w5.heap.size) := Off.own ho5
              have ltA : A < w.heap.size := h.lt _ h.fA
              have ltK : K < w.heap.size := h.lt _ h.fK
              have lw4 : w.heap.size ≤ w4.heap.size := F4.size
              have f3 : Fr (fun b => b = w5.heap.size ∨ twoB A K b) w5 (mput 63 wr.drew A x (nodeV A5 ps.length c5 (upD (depthG G) ps))) :=
                ((((Fr.refl (fun b => b = w5.heap.size ∨ twoB A K b) w5).alloc _).trans hf (fun b _ hb => .inl hb)).trans hg.drew (fun b _ hb => .inr (.inr hb))).trans u3 (fun b _ hb => .inr (.inl hb))
              refine ⟨rfl, h.more hle hr hp hall f2 u2 (mpI_fr hgm2 u3 (fun e => h.ne e.symm)) HG.out ((Sl.own ho5).fr f3 (oS.mono ?_)) (oS.mono ?_), f2.mono ?_⟩
              · rintro b ⟨hb1, hb2⟩ (e | e | e) <;> omega
              · rintro b ⟨hb1, hb2⟩
                exact ⟨by omega, Nat.lt_of_lt_of_le hb2 f3.size⟩
              · rintro b (rfl | rfl)
                · exact h.fA
                · exact h.fK
end Go.Proofs.Ytchiclnnoealdaa
