/- Contract: differ.Path. Contract: pollardlaw14.alive. -/
import Derived.Test.YtefcalkbfaefgaaGreatDifKK
import Derived.Test.YtefcalkbfaefgaaGreatShelf2K
namespace Go.Proofs.YtefcalkbfaefgaaGreat
open Go.RowKit Go.Sort
set_option linter.unusedVariables false
set_option linter.unusedSimpArgs false

theorem joinB_eq : ∀ l : List (List UInt8), Lib.join l [47] = joinB [47] l
  | [] => rfl
  | [x] => by simp [Lib.join, joinB, List.intercalate]
  | x :: y :: l => by
    have := joinB_eq (y :: l)
    unfold Lib.join at this ⊢
    rw [show joinB [47] (x :: y :: l) = x ++ [47] ++ joinB [47] (y :: l) from rfl, ← this]
    simp [List.intercalate, List.intersperse]
def sv (l : List UInt8) : Value := .string (str l)
abbrev svs (l : List (List UInt8)) : List Value := l.map sv
instance : Inhabited (List UInt8) := ⟨[]⟩
theorem etX : ET Tryz.prog 85 9 1 16 := ET.mk' (z := .string ⟨#[]⟩) Tryz.underlying85 (by kernel_rfl) (by simp [Value.cells]) (by decide) (by decide)
theorem svs_one (l : List (List UInt8)) : ∀ u ∈ svs l, u.oneCell' = true := by
  intro u hu
  obtain ⟨x, _, rfl⟩ := List.mem_map.1 hu
  rfl
def PthR (w : World) (P t : Nat) (rs : List RwW) (xs : List RwP) (L : List (List UInt8)) (gk : Nat) (lv : Value) (wr : World) : Prop :=
  ∃ (s : St) (A : Option Addr) (c : Nat) (ls : List (List UInt8)), lv = .slice A ls.length c ∧ codS.bxd wr P = some s ∧ wfS s = true ∧ reach xs gk s = true ∧ L = ls ++ namesN xs gk s ∧ wr.ownsRow w.heap.size 9 1 (.slice A ls.length c) ls.length (svs ls) ∧ mpT wr t = some (tab rs) ∧ Fr noB w wr
theorem joinB_len : ∀ (l : List (List UInt8)), (∀ x ∈ l, x.length ≤ 60) → (joinB [47] l).length ≤ 61 * l.length
  | [], _ => by simp [joinB]
  | [x], h => by have := h x (by simp); simp [joinB]; omega
  | x :: y :: l, h => by
    have h1 := h x (by simp)
    have h2 := joinB_len (y :: l) (fun z hz => h z (List.mem_cons_of_mem _ hz))
    rw [show joinB [47] (x :: y :: l) = x ++ [47] ++ joinB [47] (y :: l) from rfl]
    simp only [List.length_append, List.length_cons, List.length_nil] at h2 ⊢
    omega
set_option maxRecDepth 100000 in
/-- a row of names, reversed and joined -/
theorem join_rev (w : World) (g c : Nat) (l : List (List UInt8)) (h0 : l ≠ []) (hl : l.length ≤ 100000) (hx : ∀ x ∈ l, x.length ≤ 60) (base : Nat) (ho : w.ownsRow base 9 1 (.slice (some ⟨g, 0, none⟩) l.length c) l.length (svs l)) :
    Calls Tryz.prog 42 #[.slice (some ⟨g, 0, none⟩) l.length c] w fun e w' => e = .returned (.tuple #[]) ∧ Fr (oneB g) w w' ∧
      Calls Tryz.prog 43 #[.slice (some ⟨g, 0, none⟩) l.length c, .string (str [47])] w' (Gives w' (.string (str (joinB [47] l.reverse)))) := by
  rcases ho.2 with ⟨hv, _⟩ | ⟨g', cap, cur, hv, _, hg, hnc, hmx, hs, ht⟩
  · injection hv with hv; cases hv
  · injection hv with hv _ hc
    injection hv with hv
    injection hv with hv
    subst hv hc
    have hgs : g < w.heap.size := (Array.getElem?_eq_some_iff.1 hg).1
    have hcell : ∀ j (h : j < l.length), w.cell? ⟨g, j, none⟩ = some (sv l[j]) ∧ w.frozen? ⟨g, j, none⟩ = false := fun j h => by
      refine ⟨?_, by simp [World.frozen?, hg]⟩
      rw [cell_of_row w g j cur 9 (0, 0) hg]
      have h1 : (svs l)[j]? = some (sv l[j]) := by simp [svs, h]
      rw [← ht, List.getElem?_take_of_lt (by omega)] at h1
      simpa using h1
    have hH : Holds sv w g 0 l.toArray := fun j hj => by
      have hj' : j < l.length := by simpa using hj
      obtain ⟨a, b⟩ := hcell j hj'
      rw [Nat.zero_add, getElem!_pos _ j hj]
      exact ⟨by simpa using a, b⟩
    refine (Tryz.slices_Reverse sv (fun x => rfl) g 0 c l w hH (by omega)).mono ?_
    rintro e w' ⟨rfl, n, rfl⟩
    have hH2 : Holds sv (putRow sv (Sort.ahead w n) g 0 l.reverse.toArray) g 0 l.reverse.toArray := holds_putRow sv (Sort.ahead w n) g 0 l.toArray l.reverse.toArray hH (by simp)
    have f : Fr (oneB g) w (putRow sv (Sort.ahead w n) g 0 l.reverse.toArray) := ⟨rfl, rfl, rfl, by simp [putRow, mapBlock, Sort.ahead], fun k hk hne => by
      have : g ≠ k := fun e => hne e.symm
      simp [putRow, mapBlock, Sort.ahead, Array.getElem?_modify, this]⟩
    refine ⟨rfl, f, ?_⟩
    generalize putRow sv (Sort.ahead w n) g 0 l.reverse.toArray = w' at hH2 f
    have hr : l.reverse.length = l.length := List.length_reverse
    have hJ := Tryz.strings_Join g 0 c (l.reverse.map str) (str [47]) w' (fun j x hx => by
      rw [List.getElem?_map] at hx
      cases hq : l.reverse[j]? with
      | none => rw [hq] at hx; cases hx
      | some y =>
        rw [hq] at hx
        injection hx with hx
        subst hx
        obtain ⟨hj, hy⟩ := List.getElem?_eq_some_iff.1 hq
        have := (hH2 j (by simpa using hj)).1
        rw [getElem!_pos _ j (by simpa using hj)] at this
        rw [this]
        simp only [List.getElem_toArray, hy, sv]) (Nat.lt_of_lt_of_le hgs f.size) (by simp; omega) (by simp; omega) (by
        rw [show (l.reverse.map str).map (·.data.toList) = l.reverse by
          rw [List.map_map]
          conv => rhs; rw [← List.map_id l.reverse]
          exact List.map_congr_left (fun x _ => rfl), show (str [47]).data.toList = [47] from rfl, joinB_eq]
        have := joinB_len l.reverse (fun x hx' => hx x (by simpa using hx'))
        rw [hr] at this
        omega)
    rw [List.length_map, hr] at hJ
    refine hJ.mono ?_
    rintro e w2 ⟨rfl, hbl⟩
    refine ⟨?_, Fr.ofBelow hbl⟩
    rw [show (l.reverse.map str).map (·.data.toList) = l.reverse by
      rw [List.map_map]
      conv => rhs; rw [← List.map_id l.reverse]
      exact List.map_congr_left (fun x _ => rfl), show (str [47]).data.toList = [47] from rfl, joinB_eq]
    rfl
set_option maxRecDepth 100000 in
set_option maxHeartbeats 2000000 in
theorem path_any (w : World) (A : Option Addr) (c n : Nat) (rs : List RwW) (xs : List RwP) (hn : rs.length = n) (hs : Sl w A (codR.row rs)) (hX : RwsIn w rs xs) (tX : PthOk xs) (s : St) (hw : wfS s = true) :
    Calls Tryz.prog 14 #[.slice A n c, .agg (codS.A s)] w (Gives w (.string (str (pathR xs s)))) := by
  subst hn
  have hrl : rs.length ≤ 5000 := by rw [hX.len]; exact tX.len
  have f0 : Fr noB w (w.alloc (.cells (codS.A s) 30)) := (Fr.refl noB w).alloc _
  have b0 := bxS_box w s
  have HC := Lib.hid (of_any _ A c rs.length rs rfl (hs.fr0 f0) (by omega) (by rw [hX.nodes]; exact tX.nd) (fun r hr => (hX.wf hr).1))
  have HPL := Lib.hid (fun w' t (f : Fr noB w w') (hm : mpT w' t = some (tab rs)) => place_any w' t rs xs hm (hX.fr f) (by omega) s hw)
  obtain ⟨o, ho⟩ : ∃ o, o = placeR xs s := ⟨_, rfl⟩
  rw [← ho] at HPL
  have hpath : pathR xs s = if o = some zSt then joinB [47] (namesN xs xs.length s).reverse else [] := by unfold pathR; rw [ho]
  have HPA := Lib.hid hpath
  have HO := Lib.hid ho
  clear ho hpath
  go_enter Tryz.func14, Tryz.ntmps14
  go_upto_region 3 with (first
    | (go_at_call 40; refine HC.out.mono ?_; rintro e w1 ⟨t1, rfl, m1, hg1, f1⟩; have b1 := Cod.bxd_fr0 b0 f1; have q1 := Cod.bxd_rd b1)
    | (go_at_call 41; refine (HPL.out w1 t1 (f0.step0 f1) m1).mono ?_; rintro e w2 ⟨rfl, f2⟩))
  have fz : Fr noB w2 (w2.alloc (codS.o (o.getD zSt))) := (Fr.refl noB w2).alloc _
  have nz := Cod.rd_new' (C := codS) w2 (o.getD zSt)
  have b3 := Cod.bxd_fr0 (Cod.bxd_fr0 b1 f2) fz
  have m3 := mpT_fr0 (mpT_fr0 m1 f2) fz
  have f3 := ((f0.step0 f1).step0 f2).step0 fz
  have hPl := Cod.bxd_lt b3
  have hPn : w.heap.size ≤ w.heap.size := Nat.le_refl _
  clear HC HPL hg1 b0 b1 m1 q1 f0 f1 f2 fz
  generalize w2.alloc (codS.o (o.getD zSt)) = W3 at nz b3 m3 f3 hPl ⊢
  obtain ⟨P, hP⟩ : ∃ x, x = w.heap.size := ⟨_, rfl⟩
  rw [← hP] at b3 ⊢
  have HP := Lib.hid hP
  clear hP hPl hPn
  cases o with
  | none =>
    have HE := Lib.hid (show pathR xs s = [] by rw [HPA.out]; simp)
    go_wp2_with fail
    go_ret
    exact ⟨by rw [HE.out]; rfl, f3⟩
  | some p =>
    have hg : (some p).getD zSt = p := rfl
    rw [hg] at nz
    by_cases hp : p = zSt
    · have d1 : decide (p = zSt) = true := by simp [hp]
      have HE := Lib.hid (show pathR xs s = joinB [47] (namesN xs xs.length s).reverse by rw [HPA.out, hp]; simp)
      have hreach : reach xs xs.length s = true := by
        by_cases hT : s.T = 0
        · have := HO.out
          rw [place_zero xs hT, hp] at this
          injection this with this
          rw [← this]
          exact reach_le (k := 0) rfl (Nat.zero_le _)
        · cases hf : findR xs s with
          | none =>
            have := HO.out
            rw [place_none hT hf] at this; cases this
          | some r =>
            obtain ⟨h1, h2⟩ := findR_some hf
            rw [← h2]
            exact tX.reach h1
      obtain ⟨L, hL⟩ : ∃ L, L = namesN xs xs.length s := ⟨_, rfl⟩
      have hlen := names_len' tX.ok xs.length s
      rw [← hL] at HE hlen
      have HLN := Lib.hid (show L.length ≤ 5000 ∧ ∀ x ∈ L, x.length ≤ 60 from ⟨by have := tX.len; omega, hlen.2⟩)
      clear hp hlen hg
      go_wp2_with fail
      go_loopg [8] xs.length (fun gk lv wr => PthR w P t1 rs xs L gk lv wr)
      case atStart => exact ⟨s, none, 0, [], rfl, b3, hw, hreach, by rw [List.nil_append]; exact hL, World.ownsRow_nil _ _ _ _, m3, f3⟩
      case round =>
        clear b3 nz hreach hL hw f3 m3
        obtain ⟨cur, A8, c8, ls, rfl, hbx, hwu, hr, hL2, hown, hmr, hf⟩ := hrel
        obtain ⟨q1, q2⟩ := stCell (Cod.bxd_rd hbx)
        have q3 := Cod.bxd_rd hbx
        have hlb : ls.length ≤ 5000 := by
          have := HLN.out.1
          rw [hL2, List.length_append] at this
          omega
        have HL2 := Lib.hid hL2
        clear hL2
        by_cases h0 : cur.T = 0
        · have hLl : L = ls := by rw [HL2.out, names_zero h0, List.append_nil]
          have HE2 := Lib.hid (show pathR xs s = joinB [47] ls.reverse by rw [HE.out, hLl])
          have hx60 : ∀ x ∈ ls, x.length ≤ 60 := fun x hx => HLN.out.2 x (by rw [hLl]; exact hx)
          by_cases hle : ls = []
          · subst hle
            have HE3 := Lib.hid (HE2.out.trans (rfl : joinB [47] ([] : List (List UInt8)).reverse = []))
            clear hLl hx60
            go_wp2_with (first
              | (go_at_call 42; refine (Tryz.slices_Reverse_empty (α := List UInt8) A8 c8 _).mono ?_; rintro e w5 ⟨rfl, rfl⟩)
              | (go_at_call 43; refine (Tryz.strings_Join_none A8 c8 _ _).mono ?_; rintro e w6 ⟨rfl, rfl⟩))
            go_ret
            exact ⟨by rw [HE3.out]; rfl, hf⟩
          · obtain ⟨g, hgA, hgb⟩ : ∃ g, A8 = some ⟨g, 0, none⟩ ∧ w.heap.size ≤ g := by
              rcases hown.2 with ⟨hv, hz⟩ | ⟨g, cap, cur2, hv, hb, _⟩
              · exact absurd (List.length_eq_zero_iff.1 hz) hle
              · injection hv with h1 _ _
                exact ⟨g, h1, hb⟩
            subst hgA
            have HJ := Lib.hid (join_rev wr g c8 ls hle (by omega) hx60 w.heap.size hown)
            clear hLl hx60 hown
            go_wp2_with (first
              | (go_at_call 42; refine HJ.out.mono ?_; rintro e w5 ⟨rfl, f5, hj⟩)
              | (go_at_call 43; refine hj.mono ?_; rintro e w6 ⟨rfl, f6⟩))
            go_ret
            exact ⟨by rw [HE2.out]; rfl, (hf.step1 f5 hgb).step0 f6⟩
        · obtain ⟨j, x, rfl, hx1, hx2, hx3⟩ := names_next hr h0
          obtain ⟨r, hlk, hin⟩ : ∃ r, Go.Proofs.YtefcalkbfaefgaaGreat.look (tab rs) cur = some (.agg (codR.A r)) ∧ RwIn w r x := by
            rcases hX.find cur with ⟨_, h2⟩ | ⟨r, y, h1, h2, h3⟩
            · rw [h2] at hx1; cases hx1
            · rw [h2] at hx1
              injection hx1 with hx1
              subst hx1
              exact ⟨r, by rw [look_tab, h1]; rfl, h3⟩
          have hnm := hin.name
          have hpp := hin.parent
          have hwp := hin.wp
          have fs : Fr noB wr (wr.alloc (.cells #[.string (str r.Name)] 9)) := (Fr.refl noB wr).alloc _
          have sl : Sl (wr.alloc (.cells #[.string (str r.Name)] 9)) (some ⟨wr.heap.size, 0, none⟩) [sv r.Name] := Sl.new wr 9 [sv r.Name]
          have hown2 := own_new0 hown fs
          have hf2 := hf.step0 fs
          have hb2 := Cod.bxd_fr0 hbx fs
          have hm2 := mpT_fr0 hmr fs
          have HNB := Lib.hid ((Cod.bxd_blk hb2).ne_own hown2 (by decide))
          have HMO := Lib.hid (own_ne_map hown2 hm2)
          have HNX := Lib.hid (show L = (ls ++ [r.Name]) ++ namesN xs j r.Parent by rw [HL2.out, hx3, hnm, hpp]; simp)
          have HRC := Lib.hid (show reach xs j r.Parent = true by rw [← hpp]; exact hx2)
          clear hx1 hx2 hx3 hr hnm hpp hown hin fs
          go_wp2_with (at_builtin; refine wpList_app _ etX rfl _ _ rfl w.heap.size (.slice A8 ls.length c8) ls.length (svs ls) rfl hown2 (some ⟨wr.heap.size, 0, none⟩) 1 1 [sv r.Name] rfl sl rfl (fun u hu => by rw [List.mem_singleton] at hu; subst hu; rfl) (by omega) hf2.size ?_; intro v7 w7 ho7 hg7 hA7; obtain ⟨A7, c7, rfl, hc7, hmx7⟩ := own_form ho7; have fg := Fr.ofGrown (M := fun b => A8.map (·.block) = some b) (by rw [ownBlock_sl'] at hg7; exact hg7) (fun g hg => hg); have hm7 := mpT_fr hm2 fg HMO.out; have hb7 := Cod.bxd_fr hb2 fg (fun e => HNB.out P (by rw [ownBlock_sl']; exact e) rfl); have q7 := Cod.bxd_rd hb7; have hst := okS.stR_box hb7 r.Parent; clear hc7 hmx7 hA7)
          obtain ⟨p1, p2, p3⟩ := Cod.put_fr hb7 r.Parent
          have hf7 : Fr noB w w7 := Fr.own' hf2 hown2 (by rw [ownBlock_sl'] at hg7; exact hg7)
          have ho8 := own_box (Cod.bxd_blk hb7) ho7 (by decide) p1
          go_roundg j
          case measure => omega
          case rel =>
            refine ⟨r.Parent, A7, c7, ls ++ [r.Name], by simp, p3, hwp, HRC.out, HNX.out, ?_, mpT_put hb7 hm7, hf7.step1 p1 (by have := HP.out; omega)⟩
            simpa [svs] using ho8
    · have d1 : decide (p = zSt) = false := by simp [hp]
      have HE := Lib.hid (show pathR xs s = [] by rw [HPA.out]; simp [hp])
      clear hp hg
      go_wp2_with fail
      go_ret
      exact ⟨by rw [HE.out]; rfl, f3⟩
end Go.Proofs.YtefcalkbfaefgaaGreat
namespace Go.Proofs.YtefcalkbfaefgaaGreat
open Go.RowKit Go.Sort
set_option linter.unusedVariables false
set_option linter.unusedSimpArgs false

def r1 : RwW := ⟨⟨1, 1⟩, zSt, ⟨1, 1⟩, [97], none, 0, 0⟩
def x1 : RwP := ⟨⟨1, 1⟩, zSt, ⟨1, 1⟩, [97], []⟩
@[simp] theorem bldS_11 (w : World) : (Instr.build 30 #[(0, .int .i64 1), (1, .int .i64 1)]).run Tryz.prog w = .ok (.agg (codS.A ⟨1, 1⟩)) w := bldS_2 w 1 1
@[simp] theorem bldS_51 (w : World) : (Instr.build 30 #[(0, .int .i64 5), (1, .int .i64 1)]).run Tryz.prog w = .ok (.agg (codS.A ⟨5, 1⟩)) w := bldS_2 w 5 1
theorem bldR_1 (w : World) : (Instr.build 36 #[(0, .agg (codS.A ⟨1, 1⟩)), (2, .agg (codS.A ⟨1, 1⟩)), (3, .string ⟨#[97]⟩)]).run Tryz.prog w = .ok (.agg (codR.A r1)) w := by
  rw [Cod.A_eq, Cod.A_eq]
  kernel_rfl
@[simp ↓] theorem ex_bldR1 (ρ : Operand → Value) (x0 x2 x3 : Operand) (d : Option Nat) (t : TypeId) (p : String) (f : Array Edge) (g : Option (Nat × Bool)) (w : World) :
    (execOp ρ { dst := d, op := .build 36 #[(0, x0), (2, x2), (3, x3)], type := t, pos := p, after := f, guard := g }).run Tryz.prog w = mkB 36 w [(0, ρ x0), (2, ρ x2), (3, ρ x3)] := (exB ρ _ _ _ rfl w).trans (by simp only [List.map_toArray, List.map_cons, List.map_nil])
@[simp] theorem mkB_R1 (w : World) : mkB 36 w [(0, .agg (codS.A ⟨1, 1⟩)), (2, .agg (codS.A ⟨1, 1⟩)), (3, .string ⟨#[97]⟩)] = .ok (.value (.agg (codR.A r1))) w := mkB_ok (bldR_1 w)
def OneTo (w : World) (e : Ending) (w' : World) : Prop := ∃ g, e = .returned (.slice (some ⟨g, 0, none⟩) 1 1) ∧ Sl w' (some ⟨g, 0, none⟩) (codR.row [r1]) ∧ Fr noB w w'
set_option maxRecDepth 100000 in
theorem one_any (w : World) : Calls Tryz.prog 16 #[] w (OneTo w) := by
  have f1 : Fr noB w (w.alloc (codS.o ⟨1, 1⟩)) := (Fr.refl noB w).alloc _
  have q1 := Cod.rd_new' (C := codS) w ⟨1, 1⟩
  go_enter Tryz.func16, Tryz.ntmps16
  go_wp2_with fail
  go_ret
  refine ⟨_, rfl, ?_, f1.alloc _⟩
  have := Cod.sl_new (C := codR) (w.alloc (codS.o ⟨1, 1⟩)) [r1]
  simpa using this
theorem in1 (w : World) : RwsIn w [r1] [x1] := ⟨rfl, fun i h1 h2 => by
  have hi : i = 0 := by simp at h1; omega
  subst hi
  show RwIn w r1 x1
  exact ⟨rfl, rfl, Sl.nil _ _, by decide, by decide, by decide, by decide⟩⟩
theorem in0 (w : World) : RwsIn w [] [] := ⟨rfl, fun i h => absurd h (by simp)⟩
theorem right1 : rightR x1 = true := by decide
theorem tree1 : TreeOk [x1] := treeOk_of (by decide) (fun i h => by
  have hi : i = 0 := by simp at h; omega
  subst hi
  exact right1) (fun i j h1 h2 h3 => by simp at h2; omega) (fun i h => by
  have hi : i = 0 := by simp at h; omega
  subst hi
  exact ⟨1, show reach [x1] 1 ⟨1, 1⟩ = true by decide⟩)
theorem tree0 : TreeOk [] := treeOk_of (by decide) (fun i h => absurd h (by simp)) (fun i j h1 h2 h3 => absurd h2 (by simp)) (fun i h => absurd h (by simp))
def oA : Opn := ⟨1, ⟨5, 1⟩, ⟨1, 1⟩, zSt, [97], zID, []⟩
def oB : Opn := ⟨1, ⟨5, 1⟩, ⟨1, 1⟩, trS, [97], zID, []⟩
theorem allA : allO [] [x1] ⟨5, 1⟩ [x1] = [oA] := rfl
theorem allB : allO [x1] [] ⟨5, 1⟩ [] = [oB] := rfl
theorem goodA : goodOp oA = true := by decide
theorem goodB : goodOp oB = true := by decide
/-- what is told of nothing and a row -/
theorem diffA {E : Int} {os : List Opn} (h : DiffTo [] [x1] ⟨5, 1⟩ E os) : E = 0 ∧ os = [oA] := by
  have hE : E = 0 := h.yes tree0 tree1 (by decide) (fun l hl => by
    have : l = [x1] := List.perm_singleton.1 hl
    subst this
    rw [allA]
    exact ⟨fun o ho => by rw [List.mem_singleton] at ho; subst ho; exact goodA, by decide⟩) (fun r hr => by rw [List.mem_singleton] at hr; subst hr; decide)
  obtain ⟨_, _, _, ⟨l, hl, ho⟩, _⟩ := h.ok hE
  have : l = [x1] := List.perm_singleton.1 hl
  subst this
  exact ⟨hE, by rw [ho, allA]⟩
theorem diffB {E : Int} {os : List Opn} (h : DiffTo [x1] [] ⟨5, 1⟩ E os) : E = 0 ∧ os = [oB] := by
  have hE : E = 0 := h.yes tree1 tree0 (by decide) (fun l hl => by
    have : l = [] := List.Perm.eq_nil hl
    subst this
    rw [allB]
    exact ⟨fun o ho => by rw [List.mem_singleton] at ho; subst ho; exact goodB, by decide⟩) (fun r hr => by cases hr)
  obtain ⟨_, _, _, ⟨l, hl, ho⟩, _⟩ := h.ok hE
  have : l = [] := List.Perm.eq_nil hl
  subst this
  exact ⟨hE, by rw [ho, allB]⟩
theorem path1 : pathR [x1] ⟨1, 1⟩ = [97] := by decide
theorem alike1 : alikeR [x1] [x1] = true := by decide
theorem alike0 : alikeR [x1] [] = false := by decide
theorem alive1 : aliveR [x1] = [x1] := rfl
/-- the one operation that is told, in memory -/
theorem opOne {w : World} {A : Option Addr} {rs : List OpW} {o : Opn} (hl : rs.length = 1) (hs : Sl w A (codO.row rs)) (hi : OpsIn w rs [o]) : ∃ g off, A = some ⟨g, off, none⟩ ∧ w.cell? ⟨g, off, none⟩ = some (.int .i64 o.Kind) ∧ w.cell? ⟨g, off + 1, none⟩ = some (.int .i64 o.At.T) ∧ codS.rd w g (off + 5) = some o.Parent := by
  match rs, hl with
  | [r], _ =>
    have hin := hi.at_ 0 (by simp) (by simp)
    obtain ⟨g, off, rfl, hg⟩ := hs.adC (by simp)
    have hr : codO.rd w g (off + 0 * 41) = some r := hs.rd 0 (by simp)
    rw [Nat.zero_mul, Nat.add_zero] at hr
    have e : o = opOf r o.Over := hin.eq
    have ek : o.Kind = r.Kind := by rw [e]; rfl
    have ea : o.At = r.At := by rw [e]; rfl
    have ep : o.Parent = r.Parent := by rw [e]; rfl
    rw [ek, ea, ep]
    clear e ek ea ep
    refine ⟨g, off, rfl, ?_, ?_, ?_⟩
    · have := Cod.rd_cell hr 0 (v := .int .i64 r.Kind) rfl
      simpa using this
    · have := Cod.rd_cell hr 1 (v := .int .i64 r.At.T) rfl
      exact this
    · have := Cod.rd_part (C' := codS) hr 5 (y := r.Parent) (get2 _ _ 5 rfl rfl)
      exact this
set_option maxRecDepth 100000 in
set_option maxHeartbeats 4000000 in
theorem alive14_any (w : World) : Calls Tryz.prog 6 #[] w (Gives w (.bool true)) := by
  have hb1 : ∀ x ∈ [x1], x.Heads.length ≤ 2932031007402 := fun x hx => by rw [List.mem_singleton] at hx; subst hx; decide
  have hb0 : ∀ x ∈ ([] : List RwP), x.Heads.length ≤ 2932031007402 := fun x hx => by cases hx
  go_enter Tryz.func6, Tryz.ntmps6
  go_upto_region 2 with (first
    | (go_at_call 16; refine (one_any _).mono ?_; rintro e w1 ⟨g1, rfl, s1, f1⟩)
    | (go_at_call 9; refine (diff_any w1 none (some ⟨g1, 0, none⟩) 0 1 0 1 [] [r1] [] [x1] rfl rfl (Sl.nil _ _) s1 (in0 _) (in1 _) (by decide) (by decide) hb0 hb1 ⟨5, 1⟩).mono ?_; rintro e w2 ⟨E2, A2, c2, rs2, os2, rfl, hl2, hs2, hi2, hb2, f2, hd2, _⟩))
  obtain ⟨rfl, rfl⟩ := diffA hd2
  obtain ⟨g2, o2, rfl, a1, a2, a3⟩ := opOne hl2 hs2 hi2
  have F2 := f1.step0 f2
  clear hd2 hi2 hs2 hl2 hb2 s1 f1 f2 a3
  go_upto_region 3 with (first
    | (go_at_call 16; refine (one_any _).mono ?_; rintro e w3 ⟨g3, rfl, s3, f3⟩)
    | (go_at_call 9; refine (diff_any w3 (some ⟨g3, 0, none⟩) none 1 0 1 0 [r1] [] [x1] [] rfl rfl s3 (Sl.nil _ _) (in1 _) (in0 _) (by decide) (by decide) hb1 hb0 ⟨5, 1⟩).mono ?_; rintro e w4 ⟨E4, A4, c4, rs4, os4, rfl, hl4, hs4, hi4, hb4, f4, hd4, _⟩))
  obtain ⟨rfl, rfl⟩ := diffB hd4
  obtain ⟨g4, o4, rfl, b1, b2, b3⟩ := opOne hl4 hs4 hi4
  have k1 := cell_fr0 (cell_fr0 a1 f3) f4
  have k2 := cell_fr0 (cell_fr0 a2 f3) f4
  have F4 := (F2.step0 f3).step0 f4
  clear hd4 hi4 hs4 hl4 hb4 s3 f3 f4 b1 b2 a1 a2 F2
  have hk1 : oA.Kind = 1 := rfl
  have hk2 : oA.At.T = 5 := rfl
  have hk3 : oB.Parent = trS := rfl
  rw [hk1] at k1
  rw [hk2] at k2
  rw [hk3] at b3
  simp only [List.length_cons, List.length_nil]
  have hq : (str [97]).toList = [97] := str_toList [97]
  have hq2 : trS = (⟨0, 1⟩ : St) := rfl
  have k5 : True := trivial
  have k6 : True := trivial
  have k7 : True := trivial
  have k8 : True := trivial
  have k9 : True := trivial
  go_wp2_with (first
    | (go_at_call 16; have _t := k5; refine (one_any _).mono ?_; rintro e w5 ⟨g5, rfl, s5, f5⟩; clear k5 _t)
    | (go_at_call 14; refine (path_any w5 (some ⟨g5, 0, none⟩) 1 1 [r1] [x1] rfl s5 (in1 _) tree1.pth ⟨1, 1⟩ (by decide)).mono ?_; rintro e w6 ⟨rfl, f6⟩; rw [path1])
    | (go_at_call 16; have _t := k6; refine (one_any _).mono ?_; rintro e w7 ⟨g7, rfl, s7, f7⟩; clear k6 _t)
    | (go_at_call 16; have _t := k7; refine (one_any _).mono ?_; rintro e w8 ⟨g8, rfl, s8, f8⟩; clear k7 _t)
    | (go_at_call 10; have _t := k8; refine (alike_any w8 (some ⟨g7, 0, none⟩) (some ⟨g8, 0, none⟩) 1 1 1 1 [r1] [r1] [x1] [x1] rfl rfl (s7.fr0 f8) s8 (in1 _) (in1 _) (by decide) (by decide) (by decide) (by decide) hb1 hb1).mono ?_; rintro e w9 ⟨rfl, f9⟩; rw [alike1]; clear k8 _t)
    | (go_at_call 16; have _t := k9; refine (one_any _).mono ?_; rintro e w10 ⟨g10, rfl, s10, f10⟩; clear k9 _t)
    | (go_at_call 10; refine (alike_any w10 (some ⟨g10, 0, none⟩) none 1 0 1 0 [r1] [] [x1] [] rfl rfl s10 (Sl.nil _ _) (in1 _) (in0 _) (by decide) (by decide) (by decide) (by decide) hb1 hb0).mono ?_; rintro e w11 ⟨rfl, f11⟩; rw [alike0])
    | (go_at_call 16; refine (one_any _).mono ?_; rintro e w12 ⟨g12, rfl, s12, f12⟩)
    | (go_at_call 17; go_loud (refine (alive_d w12 (some ⟨g12, 0, none⟩) 1 1 [r1] [x1] rfl s12 (by decide) (in1 _) (by decide) hb1).mono ?_; rintro e w13 ⟨A13, c13, ls13, rfl, s13, h13, f13⟩; have hl13 : ls13.length = 1 := h13.len; rw [hl13])))
  go_ret
  exact ⟨rfl, ((((((((F4.step0 f5).step0 f6).step0 f7).step0 f8).step0 f9).step0 f10).step0 f11).step0 f12).step0 f13⟩
end Go.Proofs.YtefcalkbfaefgaaGreat
