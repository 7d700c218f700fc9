/- Contracts: sorted, Ancestors, Reaches. -/
import Derived.Test.YtchiclnnoealdaaDagW5
namespace Go.Proofs.Ytchiclnnoealdaa
open Go.RowKit Go.Maps Go.Sort Go.Shelf
set_option linter.unusedVariables false
set_option linter.unusedSimpArgs false

set_option maxRecDepth 100000 in
set_option maxHeartbeats 2000000 in
theorem sorted_any (w : World) (D : Nat) (F : Nat → Prop) (G : Dg) (h : DagAt w D F G) (R : Nat) (l : List ID) (hR : mpI w R = some (setV l)) (hl : l.length ≤ 1000000000) :
    Calls Try.prog 33 #[.pointer (some ⟨D, 0, none⟩), .map (some R)] w (NewRise w (cfD G) (· ∈ l)) := by
  have lR := mpI_lt hR
  have nd : l.Nodup := by have := mpI_nd hR; rwa [keys_setV] at this
  have hm1 : mpI (w.alloc (.cells #[.pointer (some ⟨D, 0, none⟩)] 25)) R = some (setV l) := by rw [mpI_old _ _ _ lR]; exact hR
  obtain ⟨_, hrg⟩ := rng_all Try.underlying60 hm1
  have F1 : Fr noB w (w.alloc (.cells #[.pointer (some ⟨D, 0, none⟩)] 25)) := (Fr.refl noB w).alloc _
  have b1 : Blk (w.alloc (.cells #[.pointer (some ⟨D, 0, none⟩)] 25)) w.heap.size 25 [.pointer (some ⟨D, 0, none⟩)] := Blk.new w _ _
  go_enter Try.func33, Try.ntmps33
  go_wp2_with fail
  have F2 : Fr noB w ((w.alloc (.cells #[.pointer (some ⟨D, 0, none⟩)] 25)).alloc (rngO (w.alloc (.cells #[.pointer (some ⟨D, 0, none⟩)] 25)) R)) := F1.alloc _
  have b2 := b1.alloc (rngO (w.alloc (.cells #[.pointer (some ⟨D, 0, none⟩)] 25)) R)
  simp only [World.size_alloc] at hrg
  generalize ew : (w.alloc (.cells #[.pointer (some ⟨D, 0, none⟩)] 25)).alloc (rngO (w.alloc (.cells #[.pointer (some ⟨D, 0, none⟩)] 25)) R) = w2 at hrg F2 b2 ⊢
  clear ew hm1 F1 b1
  go_loopg [5] l.length (fun gk iv wr => SorR w (w.heap.size + 1) R l (fun wr => Blk wr w.heap.size 25 [.pointer (some ⟨D, 0, none⟩)]) gk iv wr)
  case atStart => exact ⟨l, [], none, 0, rfl, rfl, hrg, World.ownsRow_nil _ _ _ _, by simp, F2, b2⟩
  case round =>
    obtain ⟨left, out, Ao, co, rfl, rfl, hr, ho, hpm, hf, hx⟩ := hrel
    have hpl := hpm.length_eq
    rw [List.length_append] at hpl
    rcases hr.next keyI (by omega) 0 with ⟨h0, hrun⟩ | ⟨l1, p, l2, w3, h0, hp, hrun, hr3, hf3, hent⟩
    · have e0 : left = [] := by simpa [setV] using h0
      subst e0
      rw [List.append_nil] at hpm
      have HP := Lib.hid hpm
      clear hpm h0
      have hd : DagAt wr D F G := h.fr0 hf
      go_wp2_with fail
      go_at_call 36
      refine (sort_any w wr Ao co _ out rfl ho (by omega) 39 #[.pointer (some ⟨w.heap.size, 0, none⟩)] (cfD G) (swoD G) (totD G) (enters_of Try.func39 (by kernel_rfl) rfl) ?_).mono ?_
      · intro blk hA hblk m os dk hdk x y
        subst hA
        have hle : w.heap.size ≤ blk := ((Off.own ho) _ rfl).1
        have hne : blk ≠ w.heap.size := Blk.ne_own hx ho (by decide) blk rfl
        have d2 : DagAt (sortWorldK encS 32 wr blk 0 m dk os) D F G := by
          refine hd.fr (sortW_fr wr blk m dk os) (fun b hb e => ?_)
          obtain ⟨_, _, _, _, hh⟩ := h
          have := hh.lt b hb
          have e' : b = blk := e
          omega
        have b2 := hx.fr (sortW_fr wr blk m dk os) (fun e => hne (Eq.symm e))
        have := closure_any (sortWorldK encS 32 wr blk 0 m dk os) D w.heap.size F G d2 (Blk.cell b2 0) x y
        simp only [encI, idA_eq] at this
        exact this.mono (fun e w' h => h)
      rintro e w4 ⟨rfl, ho4, hf4⟩
      go_wp2
      go_ret
      have hpm := HP.out
      have nd2 : out.Nodup := hpm.nodup_iff.2 nd
      refine ⟨sortBy (cfD G) out, ⟨Ao, co, by rw [sortBy_length]; rfl, ho4, hf.step hf4 (fun b hb => .inl ?_)⟩, sortBy_rise (swoD G) (totD G) nd2, fun y => by rw [sortBy_mem]; exact hpm.mem_iff, by rw [sortBy_length]; omega⟩
      cases Ao with
      | none => cases hb
      | some a => simp at hb; rw [← hb]; exact ((Off.own ho) _ rfl).1
    · obtain ⟨a, b, rfl, rfl, rfl, hp2⟩ := setV_split h0
      have hne1 := hr.ne_own ho
      have ho3 : OwnD w w3 Ao co out := own_fr ho hf3 (fun g hg e => by rw [ownBlock_sl] at hg; exact (hne1 g hg).1 e)
      have hx3 := hx.fr hf3 (fun e => by have e' : w.heap.size = w.heap.size + 1 := e; omega)
      have he := hent noB w3 (Fr.refl _ _) (by simp [noB]) (by simp [noB])
      have F3 : Fr noB w w3 := hf.step1 hf3 (by omega)
      have F4 : Fr noB w3 ((w3.alloc (ido p.1)).alloc (rowo [p.1])) := ((Fr.refl noB w3).alloc _).alloc _
      have ho4 : OwnD w ((w3.alloc (ido p.1)).alloc (rowo [p.1])) Ao co out := own_fr ho3 F4 (fun _ _ => by simp [noB])
      have rp : rdI (w3.alloc (ido p.1)) w3.heap.size 0 = some p.1 := rdI_new _ _
      have HP := Lib.hid hpm
      clear hpm h0 hent
      simp only [List.length_append, List.length_cons] at hpl
      have hsl : Sl ((w3.alloc (ido p.1)).alloc (rowo [p.1])) (some ⟨w3.heap.size + 1, 0, none⟩) (idc [p.1]) := by
        have := sl_new (w3.alloc (ido p.1)) [p.1]
        rwa [World.size_alloc] at this
      have hsz := (F3.step0 F4).size
      go_wp2_with (at_builtin; refine wpList_appD w _ rfl _ _ rfl Ao _ co out rfl rfl ho4 (some ⟨w3.heap.size + 1, 0, none⟩) 1 1 [p.1] rfl hsl rfl (by simp; omega) hsz ?_; intro A5 c5 w5 hc5 hm5 ho5 hg5 hA5)
      go_roundg (a ++ b).length
      case measure => simp
      case rel =>
        have r4 := hr3.fr F4 (by simp [noB]) (by simp [noB])
        have fg : Fr (fun b => Ao.map (·.block) = some b) ((w3.alloc (ido p.1)).alloc (rowo [p.1])) w5 := Fr.ofGrown hg5 (fun g hg => hg)
        have hne4 := r4.ne_own ho4
        refine ⟨a ++ b, out ++ [p.1], A5, c5, by simp, rfl, ?_, ho5, ?_, (F3.step0 F4).step fg (fun g hg => .inl ?_), ?_⟩
        · have := r4.fr fg (fun e => (hne4 _ e).1 rfl) (fun e => (hne4 _ e).2 rfl)
          unfold setV at this ⊢
          rwa [List.map_append]
        · refine List.Perm.trans ?_ HP.out
          simp only [List.append_assoc, List.cons_append, List.nil_append]
          exact List.Perm.append_left out List.perm_middle.symm
        · cases Ao with
          | none => cases hg
          | some ad => simp at hg; rw [← hg]; exact ((Off.own ho) _ rfl).1
        · refine (hx3.fr F4 (by simp [noB])).fr fg (fun e => ?_)
          have := Blk.ne_own (hx3.fr F4 (by simp [noB])) ho4 (by decide) w.heap.size (by rw [ownBlock_sl]; exact e)
          exact this rfl

theorem reached_len {G : Dg} (hk : okG G) {ids l : List ID} (nd : l.Nodup) (h : ∀ y, y ∈ l ↔ Reached G ids y) : l.length ≤ G.length :=
  nd_len nd (fun y hy => by obtain ⟨i, _, ha⟩ := (h y).1 hy; exact (anc_has hk ha).2)
theorem DagAt.ok {w : World} {D : Nat} {F : Nat → Prop} {G : Dg} (h : DagAt w D F G) : okG G := by obtain ⟨_, _, _, _, h⟩ := h; exact h.ok
theorem DagAt.le {w : World} {D : Nat} {F : Nat → Prop} {G : Dg} (h : DagAt w D F G) : G.length ≤ 1000000 := by obtain ⟨_, _, _, _, h⟩ := h; exact h.le
theorem ancestors_any (w : World) (D : Nat) (F : Nat → Prop) (G : Dg) (h : DagAt w D F G) (P : Option Addr) (c n : Nat) (ids : List ID) (hn : ids.length = n) (hs : Sl w P (idc ids)) (hb : ids.length ≤ 1000000000) :
    Calls Try.prog 20 #[.pointer (some ⟨D, 0, none⟩), .slice P n c] w (NewRise w (cfD G) (Reached G ids)) := by
  subst hn
  go_enter Try.func20, Try.ntmps20
  go_wp2_with fail
  go_at_call 34
  refine (reach_any w D F G h P c _ ids rfl hs hb).mono ?_
  rintro e w1 ⟨R, l, rfl, hm, hl, hR, hf⟩
  have nd : l.Nodup := by have := mpI_nd hm; rwa [keys_setV] at this
  have hll := reached_len h.ok nd hl
  have hle := h.le
  go_wp2_with fail
  go_at_call 33
  refine (sorted_any w1 D F G (h.fr0 hf) R l hm (by omega)).mono ?_
  rintro e w2 ⟨l2, ⟨A2, c2, rfl, ho2, hf2⟩, hr2, hm2, hb2⟩
  go_wp2
  go_ret
  exact ⟨l2, ⟨A2, c2, rfl, own_base ho2 hf.size, hf.step0 hf2⟩, hr2, fun y => (hm2 y).trans (hl y), hb2⟩
set_option maxRecDepth 100000 in
theorem reaches_any (w : World) (D : Nat) (F : Nat → Prop) (G : Dg) (h : DagAt w D F G) (x y : ID) :
    Calls Try.prog 24 #[.pointer (some ⟨D, 0, none⟩), encI x, encI y] w (Gives w (.bool (ancG G x y))) := by
  have F1 : Fr noB w ((w.alloc (ido x)).alloc (ido y)).drew := (((Fr.refl noB w).alloc _).alloc _).drew
  have r1 : rdI ((w.alloc (ido x)).alloc (ido y)).drew w.heap.size 0 = some x := by rw [rdI_drew, rdI_old _ _ _ _ (by simp), rdI_new]
  have r2 : rdI ((w.alloc (ido x)).alloc (ido y)).drew (w.heap.size + 1) 0 = some y := by
    have := rdI_new (w.alloc (ido x)) y
    rw [World.size_alloc] at this
    rw [rdI_drew]; exact this
  go_enter Try.func24, Try.ntmps24
  go_wp2_with fail
  refine wp_region_N 6 (fun w' => rdI w' w.heap.size 0 = some x ∧ rdI w' (w.heap.size + 1) 0 = some y) (by kernel_rfl) (by kernel_rfl) ⟨r1, r2⟩ (fun hA hF => ?_)
  refine wpAnyN_take (i := 0) (v := ?_) hA rfl (by decide) (by kernel_rfl) (by kernel_rfl) (fun _ _ _ h => h) (Or.inl ⟨by rfl, ?_⟩) hF (fun hA => ?_)
  rotate_left
  · intro wS hSw; (try dsimp only at hSw); obtain ⟨s1, s2⟩ := hSw; first | (apply Eq.trans; apply ex_ld_id; exact rfl; exact rfl; assumption; with_reducible rfl) | (go_simp; try with_reducible rfl)
  try simp only [List.getElem_toArray, List.getElem_cons_zero, List.getElem_cons_succ, Act.put, List.setIfInBounds_toArray, List.set_cons_zero, List.set_cons_succ]
  refine wpAnyN_take (i := 1) (v := ?_) hA rfl (by decide) (by kernel_rfl) (by kernel_rfl) (fun _ _ _ h => h) (Or.inl ⟨by rfl, ?_⟩) hF (fun hA => ?_)
  rotate_left
  · intro wS hSw; (try dsimp only at hSw); obtain ⟨s1, s2⟩ := hSw; first | (apply Eq.trans; apply ex_ld_id; exact rfl; exact rfl; assumption; with_reducible rfl) | (go_simp; try with_reducible rfl)
  try simp only [List.getElem_toArray, List.getElem_cons_zero, List.getElem_cons_succ, Act.put, List.setIfInBounds_toArray, List.set_cons_zero, List.set_cons_succ]
  refine wpAnyN_take (i := 4) (v := ?_) hA rfl (by decide) (by kernel_rfl) (by kernel_rfl) (fun _ _ _ h => h) (Or.inl ⟨by rfl, ?_⟩) hF (fun hA => ?_)
  rotate_left
  · intro wS hSw; (try dsimp only at hSw); obtain ⟨s1, s2⟩ := hSw; first | (apply Eq.trans; apply ex_ld_id; exact rfl; exact rfl; assumption; with_reducible rfl) | (go_simp; try with_reducible rfl)
  try simp only [List.getElem_toArray, List.getElem_cons_zero, List.getElem_cons_succ, Act.put, List.setIfInBounds_toArray, List.set_cons_zero, List.set_cons_succ]
  generalize ew : ((w.alloc (ido x)).alloc (ido y)).drew = w1 at F1 r1 r2 hF ⊢
  refine wpAnyN_one (i := 2) hA (by kernel_rfl) (by decide) rfl (fun K hK => ?_)
  refine step_run rfl _ _ (ex_bs1_at (x := x) rfl rfl) ?_
  have F2 : Fr noB w (w1.alloc (rowo [x])) := F1.alloc _
  have p1 : rdI (w1.alloc (rowo [x])) w.heap.size 0 = some x := by rw [rdI_old _ _ _ _ (rdI_lt r1)]; exact r1
  have p2 : rdI (w1.alloc (rowo [x])) (w.heap.size + 1) 0 = some y := by rw [rdI_old _ _ _ _ (rdI_lt r2)]; exact r2
  refine hK.out _ _ ⟨p1, p2⟩ (fun hA => ?_)
  clear hK K
  refine wpAnyN_one (i := 3) hA (by kernel_rfl) (by decide) rfl (fun K hK => ?_)
  go_simp
  go_at_call 34
  refine (reach_any _ D F G (h.fr0 F2) _ _ _ [x] rfl (sl_new w1 [x]) (by simp)).mono ?_
  rintro e w3 ⟨R, l, rfl, hm, hl, hR, hf⟩
  have p1 : rdI (w1.alloc (rowo [x])) w.heap.size 0 = some x := by rw [rdI_old _ _ _ _ (rdI_lt r1)]; exact r1
  have p2 : rdI (w1.alloc (rowo [x])) (w.heap.size + 1) 0 = some y := by rw [rdI_old _ _ _ _ (rdI_lt r2)]; exact r2
  have q1 : rdI w3 w.heap.size 0 = some x := rdI_fr p1 (rdI_lt p1) hf (by simp [noB])
  have q2 : rdI w3 (w.heap.size + 1) 0 = some y := rdI_fr p2 (rdI_lt p2) hf (by simp [noB])
  refine hK.out _ _ ⟨q1, q2⟩ (fun hA => ?_)
  clear hK K
  refine wpAnyN_one (i := 5) hA (by kernel_rfl) (by decide) rfl (fun K hK => ?_)
  have hlk := look_set l y
  have hd : decide (y ∈ l) = ancG G x y := by
    rw [Bool.eq_iff_iff, decide_eq_true_eq, hl]
    simp [Reached]
  rw [hd] at hlk
  go_simp
  refine hK.out _ _ ⟨q1, q2⟩ (fun hA => ?_)
  clear hK K
  refine wpAnyN_end rfl (by kernel_rfl) ?_
  simp only [List.drop_succ_cons, List.drop_zero]
  go_wp2
  go_ret
  exact ⟨rfl, F2.step0 hf⟩
end Go.Proofs.Ytchiclnnoealdaa
