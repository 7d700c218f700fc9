/- Walk of the law ObjKeeps. -/
import Derived.Test.YtejkfekpgbmdiaaKeepsP
import Derived.Test.YtejkfekpgbmdiaaLawOne
namespace Go.Proofs.Ytejkfekpgbmdiaa
open Go.RowKit
set_option linter.unusedVariables false
set_option linter.unusedSimpArgs false

theorem dirT_any (w : World) (A : Option Addr) (c n : Nat) (l : List UInt8) (hn : l.length = n) (hs : Sl w A (bv l)) (hcap : l.length ≤ c) (hb : l.length ≤ 140737488355328) (xs : List It) (h : rdDr l = some xs) :
    Calls Try.prog 10 #[.slice A n c] w fun e w' => ∃ B d rs, e = .returned (.tuple #[.slice B rs.length d, .int .i64 0]) ∧ Fr noB w w' ∧ OwnC codT w w' B d rs ∧ ItsOwn w w' rs xs := by
  refine (dir_any w A c n l hn hs hcap hb).mono ?_
  rintro e w' ⟨B, d, rs, rfl, f, h1, h2⟩
  rw [h] at h2 ⊢
  exact ⟨B, d, rs, rfl, f, h1, h2⟩
theorem changeT_any (w : World) (A : Option Addr) (c n : Nat) (l : List UInt8) (hn : l.length = n) (hs : Sl w A (bv l)) (hcap : l.length ≤ c) (hb : l.length ≤ 140737488355328) (x : Chg) (h : rdCh l = some x) :
    Calls Try.prog 13 #[.slice A n c] w fun e w' => ∃ r rs, e = .returned (.tuple #[.agg (codC.A r), .int .i64 0]) ∧ Fr noB w w' ∧ CgIn w' r rs x ∧ r.pn = x.Parents.length ∧ r.on = rs.length ∧ Rws w w' r.PA r.pc x.Parents r.OA r.oc rs x.Ops := by
  refine (change_any w A c n l hn hs hcap hb).mono ?_
  rintro e w' ⟨r, rs, rfl, f, _, h2⟩
  rw [h]
  obtain ⟨h3, h4, h5, h6⟩ := h2 x h
  exact ⟨r, rs, rfl, f, h3, h4, h5, h6⟩
def KeR (W : World) (A : Option Addr) (rs : List ItW) (gk : Nat) (iv : Value) (wr : World) : Prop :=
  ∃ k : Nat, iv = .int .i64 (k : Int) ∧ gk = rs.length - k ∧ k ≤ rs.length ∧ Fr noB W wr ∧ (0 < rs.length → ∃ g, A = some ⟨g, 0, none⟩ ∧ KT W wr g rs)
def KeR2 (W : World) (g : Nat) (rs : List ItW) (m gk : Nat) (iv : Value) (wr : World) : Prop :=
  ∃ j : Nat, iv = .int .i64 (j : Int) ∧ gk = m - j ∧ j ≤ m ∧ KT W wr g rs
def CeR (W : World) (B : Nat) (r : CgW) (rs : List OpW) (m gk : Nat) (iv : Value) (wr : World) : Prop :=
  ∃ j : Nat, iv = .int .i64 (j : Int) ∧ gk = m - j ∧ j ≤ m ∧ KC W wr B r rs
theorem csO40 (x : OpW) : (codO.cs x)[40]? = some (.slice x.A x.n x.c) := by
  show (csO x)[40]? = _
  unfold csO
  have h : (bv x.Data.1).length = 32 := by rw [bv_length, x.Data.2]
  rw [show Value.int .i64 x.Kind :: .int .i64 x.At.T :: .int .i64 x.At.R :: .int .i64 x.Node.T :: .int .i64 x.Node.R :: .int .i64 x.Parent.T :: .int .i64 x.Parent.R :: .string (str x.Name) :: (bv x.Data.1 ++ [.slice x.A x.n x.c]) = ([.int .i64 x.Kind, .int .i64 x.At.T, .int .i64 x.At.R, .int .i64 x.Node.T, .int .i64 x.Node.R, .int .i64 x.Parent.T, .int .i64 x.Parent.R, .string (str x.Name)] ++ bv x.Data.1) ++ [.slice x.A x.n x.c] from rfl]
  rw [List.getElem?_append_right (by simp [h])]
  simp [h]
theorem csT37 (x : ItW) : (codT.cs x)[37]? = some (.slice x.A x.n x.c) := by
  show (csT x)[37]? = _
  unfold csT
  have h : (bv x.Sub.1).length = 32 := by rw [bv_length, x.Sub.2]
  rw [show Value.int .i64 x.Node.T :: .int .i64 x.Node.R :: .int .i64 x.At.T :: .int .i64 x.At.R :: .string (str x.Name) :: (bv x.Sub.1 ++ [.slice x.A x.n x.c]) = ([.int .i64 x.Node.T, .int .i64 x.Node.R, .int .i64 x.At.T, .int .i64 x.At.R, .string (str x.Name)] ++ bv x.Sub.1) ++ [.slice x.A x.n x.c] from rfl]
  rw [List.getElem?_append_right (by simp [h])]
  simp [h]
/-- the k-th item that was read -/
theorem KT.at_ {W w : World} {g : Nat} {rs : List ItW} (h : KT W w g rs) {k : Nat} (hk : k < rs.length) :
    (∃ s, w.cell? ⟨g, k * 38 + 4, none⟩ = some (.string s)) ∧ w.frozen? ⟨g, k * 38 + 4, none⟩ = false ∧ w.cell? ⟨g, k * 38 + 37, none⟩ = some (.slice (rs[k]).A (rs[k]).n (rs[k]).c) := by
  obtain ⟨x, ⟨r, hr, h1, h2, h3⟩, hrd, hz⟩ := h.row.rd hk
  rw [List.getElem?_eq_getElem hk] at hr
  injection hr with hr
  subst hr
  refine ⟨⟨_, Cod.rd_cell hrd 4 (v := .string (str x.Name)) rfl⟩, hz 4 (by decide), ?_⟩
  rw [← h1, ← h2, ← h3]
  exact Cod.rd_cell hrd 37 (csT37 x)
/-- the k-th operation that was read -/
theorem KO.at_ {W w : World} {g : Nat} {rs : List OpW} (h : KO W w g rs) {k : Nat} (hk : k < rs.length) : w.cell? ⟨g, k * 41 + 40, none⟩ = some (.slice (rs[k]).A (rs[k]).n (rs[k]).c) := by
  obtain ⟨x, hr, hrd, _⟩ := h.row.rd hk
  have hr' : rs[k]? = some x := hr
  rw [List.getElem?_eq_getElem hk] at hr'
  injection hr' with hr'
  subst hr'
  exact Cod.rd_cell hrd 40 (csO40 _)
/-- .. and its j-th stamp -/
theorem Shp.stamp {w : World} {a n : Nat} {P : Nat → St → Prop} (h : Shp codS w a n P) {j : Nat} (hj : j < n) : (∃ t, w.cell? ⟨a, j * 2, none⟩ = some (.int .i64 t)) ∧ w.frozen? ⟨a, j * 2, none⟩ = false := by
  obtain ⟨x, _, hrd, hz⟩ := h.rd hj
  exact ⟨⟨x.T, Cod.rd_cell hrd 0 (v := .int .i64 x.T) rfl⟩, hz 0 (by decide)⟩
set_option maxRecDepth 100000 in
set_option maxHeartbeats 4000000 in
theorem keepsL_any (w : World) (A0 : Option Addr) (c0 : Nat) (rs0 : List ItW) (xs0 : List It) (hs : Sl w A0 (codT.row rs0)) (hb : rs0.length ≤ 140737488355328) (hc : rs0.length ≤ c0) (hin : ItsIn w rs0 xs0) (r : CgW) (rs : List OpW) (c : Chg) (hcg : CgIn w r rs c) :
    Calls Try.prog 4 #[.slice A0 rs0.length c0, .agg (codC.A r)] w (Gives w (.bool true)) := by
  have f0 : Fr noB w (w.alloc (.cells (codC.A r) 27)) := (Fr.refl noB w).alloc _
  have q1 := Cod.rd_new (C := codC) w 27 r
  replace hcg := hcg.fr f0
  replace hs := hs.fr0 f0
  replace hin := hin.fr f0
  go_enter Try.func4, Try.ntmps4
  go_upto_region 1 with fail
  generalize w.alloc (.cells (codC.A r) 27) = W0 at f0 q1 hcg hs hin ⊢
  generalize w.heap.size = P at q1 ⊢
  go_upto_region 3 with (go_at_call 5; refine (alive_any _).mono ?_; rintro e w1 ⟨rfl, f1⟩)
  replace q1 := Cod.rd_fr0 q1 f1
  replace hcg := hcg.fr f1
  replace hs := hs.fr0 f1
  replace hin := hin.fr f1
  replace f0 := f0.step0 f1
  clear f1
  by_cases hlen : rs0.length ≤ 100
  · have h100 : ¬ (100 : Int) < (rs0.length : Int) := by omega
    go_upto_region 5 with fail
    by_cases hrd : rightDr xs0 = true
    · have DP := Lib.hid (show putDr xs0 = some (drB xs0) by unfold putDr; rw [if_pos hrd])
      have DR := Lib.hid (Rt.dr hrd)
      have DL := Lib.hid (drB_len hrd)
      generalize drB xs0 = bD at DP DR DL
      clear hrd
      go_upto_region 7 with (go_at_call 12; refine (putDir_any _ A0 c0 rs0.length rs0 xs0 rfl hs hb hin).mono ?_; intro e w2 hp; obtain ⟨A2, c2, rfl, hs2, f2, hc2, _⟩ := hp.some (b := bD) (n := bD.length) DP.out rfl; clear hp)
      replace q1 := Cod.rd_fr0 q1 f2
      replace hcg := hcg.fr f2
      replace hs := hs.fr0 f2
      replace hin := hin.fr f2
      replace f0 := f0.step0 f2
      have cv := conv_str w2 A2 bD.length c2 bD rfl hs2
      go_upto_region 8 with fail
      go_upto_region 9 with (go_at_call 10; refine (dirT_any _ A2 c2 bD.length bD rfl hs2 hc2 (by have := DL.out; omega) xs0 DR.out).mono ?_; rintro e w3 ⟨A3, c3, rs3, rfl, f3, ho3, hi3⟩)
      have hkt : 0 < rs3.length → ∃ g, A3 = some ⟨g, 0, none⟩ ∧ KT w2 w3 g rs3 := fun h0 => KT.of f3 ho3 hi3 h0
      have h3a : rs3.length ≤ 100 := by have := hi3.len; have := hin.len; omega
      have h3b : ∀ r ∈ rs3, r.n ≤ 140737488355328 := fun r hr => by
        obtain ⟨i, hi1, rfl⟩ := List.getElem_of_mem hr
        obtain ⟨hx, _⟩ := hi3.at_ i hi1 (by rw [← hi3.len]; exact hi1)
        rw [← hx.len]; exact hx.bd
      clear cv ho3 hi3
      go_wp2_with fail
      go_loopg [45] rs3.length (fun gk iv wr => KeR w2 A3 rs3 gk iv wr)
      case atStart => exact ⟨0, rfl, by omega, by omega, f3, hkt⟩
      case round =>
        obtain ⟨k, rfl, rfl, hk, hfr, hkk⟩ := hrel
        by_cases hlt : k < rs3.length
        · have i1 : (k : Int) < (rs3.length : Int) := by omega
          have i0 : (0 : Int) ≤ (k : Int) := by omega
          obtain ⟨g, rfl, hK⟩ := hkk (by omega)
          obtain ⟨s4, e4⟩ := (hK.at_ hlt).1
          have z4 := (hK.at_ hlt).2.1
          have hK1 : KT w2 (wr.setCell ⟨g, k * 38 + 4, none⟩ (.string { data := #[116, 117, 114, 110, 101, 100] })) g rs3 := hK.name hlt [116, 117, 114, 110, 101, 100]
          go_upto_region 13 with fail
          generalize wr.setCell ⟨g, k * 38 + 4, none⟩ (.string { data := #[116, 117, 114, 110, 101, 100] }) = w5 at hK1 ⊢
          have e37 := (hK1.at_ hlt).2.2
          have hmem : rs3[k] ∈ rs3 := List.getElem_mem hlt
          have hbn := h3b _ hmem
          have hat : ∀ w', KT w2 w' g rs3 → w'.cell? ⟨g, k * 38 + 37, none⟩ = some (.slice (rs3[k]).A (rs3[k]).n (rs3[k]).c) := fun w' h => (h.at_ hlt).2.2
          have HLT := Lib.hid hlt
          generalize rs3[k] = q at e37 hmem hbn hat
          have HAT := Lib.hid hat
          clear e4 z4 hK hfr hkk hlt hkt hat
          go_wp2_with fail
          go_loopg [58] q.n (fun gk iv wr => KeR2 w2 g rs3 q.n gk iv wr)
          case atStart => exact ⟨0, rfl, by omega, by omega, hK1⟩
          case round =>
            obtain ⟨j, rfl, rfl, hj, hK2⟩ := hrel
            have e38 := HAT.out _ hK2
            by_cases hjl : j < q.n
            · have j1 : (j : Int) < (q.n : Int) := by omega
              have j0 : (0 : Int) ≤ (j : Int) := by omega
              obtain ⟨a, ea, hba, hsh⟩ := hK2.hd q hmem (by omega)
              have hst := hsh.stI hjl (id2 99 0) 2 (j * 34 + 2) rfl (by decide)
              have hK3 := hK2.data hmem hjl (id2 99 0) ea
              have hN9 : id2 (Int.toNat 99) 0 = id2 99 0 := rfl
              rw [ea] at e38
              clear hsh ea
              go_wp2_with fail
              go_roundg (q.n - (j + 1))
              case measure => omega
              case rel => exact ⟨j + 1, by simp, rfl, by omega, hK3⟩
            · have hjn : j = q.n := by omega
              subst hjn
              have j1 : ¬ (q.n : Int) < (q.n : Int) := by omega
              have hlt := HLT.out
              go_wp2_with fail
              go_roundg (rs3.length - (k + 1))
              case measure => omega
              case rel => exact ⟨k + 1, by simp, rfl, by omega, hK2.fr, fun _ => ⟨g, rfl, hK2⟩⟩
        · have hkl : k = rs3.length := by omega
          subst hkl
          have i1 : ¬ (rs3.length : Int) < (rs3.length : Int) := by omega
          clear hkk hkt hlt hk
          replace q1 := Cod.rd_fr0 q1 hfr
          replace hcg := hcg.fr hfr
          replace hs := hs.fr0 hfr
          replace hin := hin.fr hfr
          replace f0 := f0.step0 hfr
          replace hs2 := hs2.fr0 hfr
          go_upto_region 20 with (go_at_call 12; refine (putDir_any _ A0 c0 rs0.length rs0 xs0 rfl hs hb hin).mono ?_; intro e w6 hp; obtain ⟨A6, c6, rfl, hs6, f6, hc6, _⟩ := hp.some (b := bD) (n := bD.length) DP.out rfl; clear hp)
          replace q1 := Cod.rd_fr0 q1 f6
          replace hcg := hcg.fr f6
          replace f0 := f0.step0 f6
          replace hs2 := hs2.fr0 f6
          have cv6 := conv_str w6 A6 bD.length c6 bD rfl hs6
          have cv2 := conv_str w6 A2 bD.length c2 bD rfl hs2
          go_upto_region 22 with fail
          clear cv6 cv2 hs2 hs6 hs hin
          by_cases hrc : rightCh c = true
          · have CP := Lib.hid (show putCh c = some (chB c) by unfold putCh; rw [if_pos hrc])
            have CR := Lib.hid (Rt.ch hrc)
            have CL := Lib.hid (chB_len hrc).2
            generalize chB c = bC at CP CR CL
            clear hrc
            go_upto_region 24 with (go_at_call 6; refine (putChange_any _ r rs c hcg).mono ?_; intro e w7 hp; obtain ⟨A7, c7, rfl, hs7, f7, hc7, _⟩ := hp.some (b := bC) (n := bC.length) CP.out rfl; clear hp)
            replace q1 := Cod.rd_fr0 q1 f7
            replace hcg := hcg.fr f7
            replace f0 := f0.step0 f7
            have cv7 := conv_str w7 A7 bC.length c7 bC rfl hs7
            go_upto_region 25 with fail
            clear cv7
            go_upto_region 26 with (go_at_call 13; refine (changeT_any _ A7 c7 bC.length bC rfl hs7 hc7 (by have := CL.out; omega) c CR.out).mono ?_; rintro e w8 ⟨r8, rs8, rfl, f8, hc8, hp8, ho8, hw8⟩)
            have hK := KC.of f8 hw8 hp8
            have hb8 : r8.pn ≤ 140737488355328 := by rw [hp8]; exact hc8.pb
            have hb9 := hc8.ob
            have hbo : ∀ q ∈ rs8, q.n ≤ 140737488355328 := fun q hq => by
              obtain ⟨i, hi1, rfl⟩ := List.getElem_of_mem hq
              have hx := hc8.ops.at_ i hi1 (by rw [← hc8.ops.len]; exact hi1)
              rw [← hx.len]; exact hx.bd
            have HBO := Lib.hid hbo
            have HO8 := Lib.hid ho8
            clear hc8 hw8 hp8 hbo f8 ho8
            generalize w8.alloc (codC.o r8) = w9 at hK ⊢
            generalize w8.heap.size = B at hK ⊢
            have e0 := (cgAt (Cod.bxd_rd hK.bx)).parents
            go_wp2_with fail
            go_loopg [108] r8.pn (fun gk iv wr => CeR w7 B r8 rs8 r8.pn gk iv wr)
            case atStart => exact ⟨0, rfl, by omega, by omega, hK⟩
            case round =>
              obtain ⟨j, rfl, rfl, hj, hK2⟩ := hrel
              have e0 := (cgAt (Cod.bxd_rd hK2.bx)).parents
              by_cases hjl : j < r8.pn
              · have j1 : (j : Int) < (r8.pn : Int) := by omega
                have j0 : (0 : Int) ≤ (j : Int) := by omega
                obtain ⟨g, eg, hi⟩ := hK2.pa (by omega)
                have hst := hi.row.stI hjl (id2 99 0) 0 (j * 32) rfl (by decide)
                have hK3 := hK2.put hjl eg (id2 99 0)
                have hN9 : id2 (Int.toNat 99) 0 = id2 99 0 := rfl
                rw [eg] at e0
                clear hi eg
                go_wp2_with fail
                go_roundg (r8.pn - (j + 1))
                case measure => omega
                case rel => exact ⟨j + 1, by simp, rfl, by omega, hK3⟩
              · have hjn : j = r8.pn := by omega
                subst hjn
                have j1 : ¬ (r8.pn : Int) < (r8.pn : Int) := by omega
                have e3 := (cgAt (Cod.bxd_rd hK2.bx)).ops
                rw [HO8.out] at e3
                clear hjl hj
                go_wp2_with fail
                go_loopg [120] rs8.length (fun gk iv wr => CeR w7 B r8 rs8 rs8.length gk iv wr)
                case atStart => exact ⟨0, rfl, by omega, by omega, hK2⟩
                case round =>
                  obtain ⟨k, rfl, rfl, hk, hK4⟩ := hrel
                  have e3 := (cgAt (Cod.bxd_rd hK4.bx)).ops
                  rw [HO8.out] at e3
                  by_cases hkl : k < rs8.length
                  · have i1 : (k : Int) < (rs8.length : Int) := by omega
                    have i0 : (0 : Int) ≤ (k : Int) := by omega
                    obtain ⟨g, eg, ho⟩ := hK4.op (by omega)
                    have e40 := ho.at_ hkl
                    have hmem : rs8[k] ∈ rs8 := List.getElem_mem hkl
                    have hbn := HBO.out _ hmem
                    have HAT := Lib.hid (show ∀ w', KC w7 w' B r8 rs8 → w'.cell? ⟨g, k * 41 + 40, none⟩ = some (.slice (rs8[k]).A (rs8[k]).n (rs8[k]).c) from fun w' h => by
                      obtain ⟨g', eg', ho'⟩ := h.op (by omega)
                      rw [eg] at eg'
                      injection eg' with eg'
                      injection eg' with eg'
                      subst eg'
                      exact ho'.at_ hkl)
                    have HKL := Lib.hid hkl
                    generalize rs8[k] = q at e40 hmem hbn HAT
                    have EG := Lib.hid eg
                    rw [eg] at e3
                    clear ho eg hkl
                    go_wp2_with fail
                    go_loopg [130] q.n (fun gk iv wr => CeR w7 B r8 rs8 q.n gk iv wr)
                    case atStart => exact ⟨0, rfl, by omega, by omega, hK4⟩
                    case round =>
                      obtain ⟨j, rfl, rfl, hj, hK5⟩ := hrel
                      have e3 := (cgAt (Cod.bxd_rd hK5.bx)).ops
                      rw [HO8.out, EG.out] at e3
                      have e41 := HAT.out _ hK5
                      by_cases hjl : j < q.n
                      · have j1 : (j : Int) < (q.n : Int) := by omega
                        have j0 : (0 : Int) ≤ (j : Int) := by omega
                        obtain ⟨g', eg', ho'⟩ := hK5.op (List.length_pos_of_mem hmem)
                        obtain ⟨a, ea, _, hsh⟩ := ho'.hd q hmem (by omega)
                        obtain ⟨t5, e5⟩ := (hsh.stamp hjl).1
                        have z5 := (hsh.stamp hjl).2
                        have hK6 := hK5.time hmem hjl 99 ea
                        rw [ea] at e41
                        clear ho' eg' hsh ea
                        go_wp2_with fail
                        go_roundg (q.n - (j + 1))
                        case measure => omega
                        case rel => exact ⟨j + 1, by simp, rfl, by omega, hK6⟩
                      · have hjn : j = q.n := by omega
                        subst hjn
                        have j1 : ¬ (q.n : Int) < (q.n : Int) := by omega
                        have hkl := HKL.out
                        go_wp2_with fail
                        go_roundg (rs8.length - (k + 1))
                        case measure => omega
                        case rel => exact ⟨k + 1, by simp, rfl, by omega, hK5⟩
                  · have hkn : k = rs8.length := by omega
                    subst hkn
                    have i1 : ¬ (rs8.length : Int) < (rs8.length : Int) := by omega
                    have f10 := hK4.fr
                    replace q1 := Cod.rd_fr0 q1 f10
                    replace hcg := hcg.fr f10
                    replace f0 := f0.step0 f10
                    replace hs7 := hs7.fr0 f10
                    clear hK4 hkl hk f10 e3
                    go_upto_region 41 with (go_at_call 6; refine (putChange_any _ r rs c hcg).mono ?_; intro e w11 hp; obtain ⟨A11, c11, rfl, hs11, f11, hc11, _⟩ := hp.some (b := bC) (n := bC.length) CP.out rfl; clear hp)
                    replace f0 := f0.step0 f11
                    replace hs7 := hs7.fr0 f11
                    have cv7 := conv_str w11 A7 bC.length c7 bC rfl hs7
                    have cv11 := conv_str w11 A11 bC.length c11 bC rfl hs11
                    go_wp2_with fail
                    go_ret
                    exact ⟨by simp, f0⟩
          · have HP1 := Lib.hid (show putCh c = none by unfold putCh; rw [if_neg hrc])
            clear hrc
            go_wp2_with (go_at_call 6; refine (putChange_any _ r rs c hcg).mono ?_; intro e w7 hp; obtain ⟨A7, c7, rfl, f7⟩ := hp.no HP1.out; clear hp)
            go_ret
            exact ⟨rfl, f0.step0 f7⟩
    · have HP1 := Lib.hid (show putDr xs0 = none by unfold putDr; rw [if_neg hrd])
      clear hrd
      go_upto_region 22 with (go_at_call 12; refine (putDir_any _ A0 c0 rs0.length rs0 xs0 rfl hs hb hin).mono ?_; intro e w2 hp; obtain ⟨A2, c2, rfl, f2⟩ := hp.no HP1.out; clear hp)
      replace q1 := Cod.rd_fr0 q1 f2
      replace hcg := hcg.fr f2
      replace f0 := f0.step0 f2
      clear hs hin
      by_cases hrc : rightCh c = true
      · have CP := Lib.hid (show putCh c = some (chB c) by unfold putCh; rw [if_pos hrc])
        have CR := Lib.hid (Rt.ch hrc)
        have CL := Lib.hid (chB_len hrc).2
        generalize chB c = bC at CP CR CL
        clear hrc
        go_upto_region 24 with (go_at_call 6; refine (putChange_any _ r rs c hcg).mono ?_; intro e w7 hp; obtain ⟨A7, c7, rfl, hs7, f7, hc7, _⟩ := hp.some (b := bC) (n := bC.length) CP.out rfl; clear hp)
        replace q1 := Cod.rd_fr0 q1 f7
        replace hcg := hcg.fr f7
        replace f0 := f0.step0 f7
        have cv7 := conv_str w7 A7 bC.length c7 bC rfl hs7
        go_upto_region 25 with fail
        clear cv7
        go_upto_region 26 with (go_at_call 13; refine (changeT_any _ A7 c7 bC.length bC rfl hs7 hc7 (by have := CL.out; omega) c CR.out).mono ?_; rintro e w8 ⟨r8, rs8, rfl, f8, hc8, hp8, ho8, hw8⟩)
        have hK := KC.of f8 hw8 hp8
        have hb8 : r8.pn ≤ 140737488355328 := by rw [hp8]; exact hc8.pb
        have hb9 := hc8.ob
        have hbo : ∀ q ∈ rs8, q.n ≤ 140737488355328 := fun q hq => by
          obtain ⟨i, hi1, rfl⟩ := List.getElem_of_mem hq
          have hx := hc8.ops.at_ i hi1 (by rw [← hc8.ops.len]; exact hi1)
          rw [← hx.len]; exact hx.bd
        have HBO := Lib.hid hbo
        have HO8 := Lib.hid ho8
        clear hc8 hw8 hp8 hbo f8 ho8
        generalize w8.alloc (codC.o r8) = w9 at hK ⊢
        generalize w8.heap.size = B at hK ⊢
        have e0 := (cgAt (Cod.bxd_rd hK.bx)).parents
        go_wp2_with fail
        go_loopg [108] r8.pn (fun gk iv wr => CeR w7 B r8 rs8 r8.pn gk iv wr)
        case atStart => exact ⟨0, rfl, by omega, by omega, hK⟩
        case round =>
          obtain ⟨j, rfl, rfl, hj, hK2⟩ := hrel
          have e0 := (cgAt (Cod.bxd_rd hK2.bx)).parents
          by_cases hjl : j < r8.pn
          · have j1 : (j : Int) < (r8.pn : Int) := by omega
            have j0 : (0 : Int) ≤ (j : Int) := by omega
            obtain ⟨g, eg, hi⟩ := hK2.pa (by omega)
            have hst := hi.row.stI hjl (id2 99 0) 0 (j * 32) rfl (by decide)
            have hK3 := hK2.put hjl eg (id2 99 0)
            have hN9 : id2 (Int.toNat 99) 0 = id2 99 0 := rfl
            rw [eg] at e0
            clear hi eg
            go_wp2_with fail
            go_roundg (r8.pn - (j + 1))
            case measure => omega
            case rel => exact ⟨j + 1, by simp, rfl, by omega, hK3⟩
          · have hjn : j = r8.pn := by omega
            subst hjn
            have j1 : ¬ (r8.pn : Int) < (r8.pn : Int) := by omega
            have e3 := (cgAt (Cod.bxd_rd hK2.bx)).ops
            rw [HO8.out] at e3
            clear hjl hj
            go_wp2_with fail
            go_loopg [120] rs8.length (fun gk iv wr => CeR w7 B r8 rs8 rs8.length gk iv wr)
            case atStart => exact ⟨0, rfl, by omega, by omega, hK2⟩
            case round =>
              obtain ⟨k, rfl, rfl, hk, hK4⟩ := hrel
              have e3 := (cgAt (Cod.bxd_rd hK4.bx)).ops
              rw [HO8.out] at e3
              by_cases hkl : k < rs8.length
              · have i1 : (k : Int) < (rs8.length : Int) := by omega
                have i0 : (0 : Int) ≤ (k : Int) := by omega
                obtain ⟨g, eg, ho⟩ := hK4.op (by omega)
                have e40 := ho.at_ hkl
                have hmem : rs8[k] ∈ rs8 := List.getElem_mem hkl
                have hbn := HBO.out _ hmem
                have HAT := Lib.hid (show ∀ w', KC w7 w' B r8 rs8 → w'.cell? ⟨g, k * 41 + 40, none⟩ = some (.slice (rs8[k]).A (rs8[k]).n (rs8[k]).c) from fun w' h => by
                  obtain ⟨g', eg', ho'⟩ := h.op (by omega)
                  rw [eg] at eg'
                  injection eg' with eg'
                  injection eg' with eg'
                  subst eg'
                  exact ho'.at_ hkl)
                have HKL := Lib.hid hkl
                generalize rs8[k] = q at e40 hmem hbn HAT
                have EG := Lib.hid eg
                rw [eg] at e3
                clear ho eg hkl
                go_wp2_with fail
                go_loopg [130] q.n (fun gk iv wr => CeR w7 B r8 rs8 q.n gk iv wr)
                case atStart => exact ⟨0, rfl, by omega, by omega, hK4⟩
                case round =>
                  obtain ⟨j, rfl, rfl, hj, hK5⟩ := hrel
                  have e3 := (cgAt (Cod.bxd_rd hK5.bx)).ops
                  rw [HO8.out, EG.out] at e3
                  have e41 := HAT.out _ hK5
                  by_cases hjl : j < q.n
                  · have j1 : (j : Int) < (q.n : Int) := by omega
                    have j0 : (0 : Int) ≤ (j : Int) := by omega
                    obtain ⟨g', eg', ho'⟩ := hK5.op (List.length_pos_of_mem hmem)
                    obtain ⟨a, ea, _, hsh⟩ := ho'.hd q hmem (by omega)
                    obtain ⟨t5, e5⟩ := (hsh.stamp hjl).1
                    have z5 := (hsh.stamp hjl).2
                    have hK6 := hK5.time hmem hjl 99 ea
                    rw [ea] at e41
                    clear ho' eg' hsh ea
                    go_wp2_with fail
                    go_roundg (q.n - (j + 1))
                    case measure => omega
                    case rel => exact ⟨j + 1, by simp, rfl, by omega, hK6⟩
                  · have hjn : j = q.n := by omega
                    subst hjn
                    have j1 : ¬ (q.n : Int) < (q.n : Int) := by omega
                    have hkl := HKL.out
                    go_wp2_with fail
                    go_roundg (rs8.length - (k + 1))
                    case measure => omega
                    case rel => exact ⟨k + 1, by simp, rfl, by omega, hK5⟩
              · have hkn : k = rs8.length := by omega
                subst hkn
                have i1 : ¬ (rs8.length : Int) < (rs8.length : Int) := by omega
                have f10 := hK4.fr
                replace q1 := Cod.rd_fr0 q1 f10
                replace hcg := hcg.fr f10
                replace f0 := f0.step0 f10
                replace hs7 := hs7.fr0 f10
                clear hK4 hkl hk f10 e3
                go_upto_region 41 with (go_at_call 6; refine (putChange_any _ r rs c hcg).mono ?_; intro e w11 hp; obtain ⟨A11, c11, rfl, hs11, f11, hc11, _⟩ := hp.some (b := bC) (n := bC.length) CP.out rfl; clear hp)
                replace f0 := f0.step0 f11
                replace hs7 := hs7.fr0 f11
                have cv7 := conv_str w11 A7 bC.length c7 bC rfl hs7
                have cv11 := conv_str w11 A11 bC.length c11 bC rfl hs11
                go_wp2_with fail
                go_ret
                exact ⟨by simp, f0⟩
      · have HP1 := Lib.hid (show putCh c = none by unfold putCh; rw [if_neg hrc])
        clear hrc
        go_wp2_with (go_at_call 6; refine (putChange_any _ r rs c hcg).mono ?_; intro e w7 hp; obtain ⟨A7, c7, rfl, f7⟩ := hp.no HP1.out; clear hp)
        go_ret
        exact ⟨rfl, f0.step0 f7⟩
  · have h100 : (100 : Int) < (rs0.length : Int) := by omega
    go_wp2_with fail
    go_ret
    exact ⟨rfl, f0⟩
end Go.Proofs.Ytejkfekpgbmdiaa
