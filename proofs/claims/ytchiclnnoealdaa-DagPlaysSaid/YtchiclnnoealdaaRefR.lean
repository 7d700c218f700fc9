/- Contract: the reference's reached. -/
import Derived.Test.YtchiclnnoealdaaRefF
namespace Go.Proofs.Ytchiclnnoealdaa
open Go.RowKit Go.Maps Go.Sort Go.Shelf
set_option linter.unusedVariables false
set_option linter.unusedSimpArgs false

/-- what is marked when the nodes from t on are done -/
def mkB (m : Md) (ids : List ID) (t : Nat) (y : ID) : Bool := decide (y ∈ ids) || (m.drop t).any fun r => reB m.reverse ids r.1 && decide (y ∈ r.2)
theorem mkB_n (m : Md) (ids : List ID) (y : ID) : mkB m ids m.length y = decide (y ∈ ids) := by simp [mkB]
theorem mkB_0 {m : Md} (hk : okG m.reverse) (ids : List ID) (i : Nat) (hi : i < m.length) : mkB m ids 0 (m[i]).1 = reB m.reverse ids (m[i]).1 := by
  have hh := has_at i hi
  rw [Bool.eq_iff_iff, ← reB_iff]
  unfold mkB
  rw [Bool.or_eq_true, decide_eq_true_eq, List.drop_zero, List.any_eq_true]
  constructor
  · rintro (h | ⟨r, hr, h⟩)
    · exact ⟨_, h, anc_refl hh⟩
    · simp only [Bool.and_eq_true, decide_eq_true_eq] at h
      obtain ⟨x, hx, ha⟩ := (reB_iff _ _ _).2 h.1
      exact ⟨x, hx, anc_step hk ha ((par_mem hk r.1 r.2).2 (by rw [List.mem_reverse]; exact hr)) h.2⟩
  · rintro ⟨x, hx, ha⟩
    by_cases e : x = (m[i]).1
    · exact .inl (by rw [← e]; exact hx)
    · obtain ⟨d, ps, h1, h2, h3⟩ := anc_last hk ha e
      refine .inr ⟨(d, ps), ?_, by simp only [Bool.and_eq_true, decide_eq_true_eq]; exact ⟨(reB_iff _ _ _).1 ⟨x, hx, h1⟩, h3⟩⟩
      have := (par_mem hk d ps).1 h2
      rwa [List.mem_reverse] at this
theorem mkB_at {m : Md} (hk : okG m.reverse) (ids : List ID) (i : Nat) (hi : i < m.length) : mkB m ids (i + 1) (m[i]).1 = reB m.reverse ids (m[i]).1 := by
  rw [← mkB_0 hk ids i hi, Bool.eq_iff_iff]
  unfold mkB
  simp only [Bool.or_eq_true, List.any_eq_true, List.drop_zero]
  refine or_congr_right ⟨fun ⟨r, hr, h⟩ => ⟨r, List.mem_of_mem_drop hr, h⟩, fun ⟨r, hr, h⟩ => ⟨r, ?_, h⟩⟩
  obtain ⟨j, hj, rfl⟩ := List.getElem_of_mem hr
  simp only [Bool.and_eq_true, decide_eq_true_eq] at h
  have := par_lt hk j hj _ h.2
  rw [findN_key hk i hi] at this
  rw [List.mem_drop_iff_getElem]
  exact ⟨j - (i + 1), by omega, by congr 1; omega⟩
theorem mkB_step (m : Md) (ids : List ID) (i : Nat) (hi : i < m.length) (y : ID) : mkB m ids i y = (mkB m ids (i + 1) y || (reB m.reverse ids (m[i]).1 && decide (y ∈ (m[i]).2))) := by
  unfold mkB
  rw [List.drop_eq_getElem_cons hi, List.any_cons]
  rw [Bool.or_assoc]
  congr 1
  rw [Bool.or_comm]

def Rc1 (w0 : World) (m : Md) (ids : List ID) (gk : Nat) (kv : Value) (wr : World) : Prop := ∃ k : Nat, kv = .int .i64 (k : Int) ∧ gk = ids.length - k ∧ k ≤ ids.length ∧ OwnC w0.heap.size wr 4 w0.heap.size m.length (m.map fun q => .bool (decide (q.1 ∈ ids.take k))) ∧ Fr noB w0 wr
def Rc2 (w0 : World) (m : Md) (ids : List ID) (gk : Nat) (kv : Value) (wr : World) : Prop := ∃ (t : Nat) (v : Int), kv = .int .i64 v ∧ v = (t : Int) - 1 ∧ gk = t ∧ t ≤ m.length ∧ OwnC w0.heap.size wr 4 w0.heap.size m.length (m.map fun q => .bool (mkB m ids t q.1)) ∧ Fr noB w0 wr
def Rc3 (w0 : World) (m : Md) (ids : List ID) (i : Nat) (ps : List ID) (b : Bool) (gk : Nat) (kv : Value) (wr : World) : Prop := ∃ k : Nat, kv = .int .i64 (k : Int) ∧ gk = ps.length - k ∧ k ≤ ps.length ∧ (b = false → k = 0) ∧ OwnC w0.heap.size wr 4 w0.heap.size m.length (m.map fun q => .bool (mkB m ids (i + 1) q.1 || decide (q.1 ∈ ps.take k))) ∧ Fr noB w0 wr

set_option maxRecDepth 100000 in
set_option maxHeartbeats 1000000 in
theorem reached_any (w : World) (A : Option Addr) (c n : Nat) (m : Md) (hn : m.length = n) (h : RfA w A m) (hk : okG m.reverse) (hb : m.length ≤ 1000000) (B : Option Addr) (cB nB : Nat) (ids : List ID) (hnB : ids.length = nB) (hB : Sl w B (idc ids)) (hbB : ids.length ≤ 1000000000) :
    Calls Try.prog 35 #[.slice A n c, .slice B nB cB] w (fun e w' => ∃ D, e = .returned (.slice (some ⟨D, 0, none⟩) m.length m.length) ∧ OwnC w.heap.size w' 4 D m.length (m.map fun q => .bool (reB m.reverse ids q.1)) ∧ Fr noB w w') := by
  subst hn
  subst hnB
  have hmk := run_make_row' (P := Try.prog) 75 4 (.bool false) 1 Try.underlying75 (by kernel_rfl) rfl .i64 .i64 m.length (by omega) (by omega)
  have own0 := OwnC.mk0 w 4 (.bool false) m.length (by omega)
  have f0 : Fr noB w (w.alloc (.cells (madeCells #[.bool false] m.length) 4)) := (Fr.refl noB w).alloc _
  have HK := Lib.hid hk
  clear hk
  go_enter Try.func35, Try.ntmps35
  go_wp2_with fail
  generalize hW : w.alloc (.cells (madeCells #[.bool false] m.length) 4) = W at own0 f0 ⊢
  clear hmk hW
  go_loopg [6, 7] ids.length (fun gk kv v7 wr => Rc1 w m ids gk kv wr)
  case atStart =>
    have e0 : (m.map fun q => Value.bool (decide (q.1 ∈ ids.take 0))) = List.replicate m.length (.bool false) := by simp [List.map_const']
    exact ⟨0, rfl, rfl, by omega, by rw [e0]; exact own0, f0⟩
  case round =>
    obtain ⟨k, rfl, rfl, hkl, ho, hf⟩ := hrel
    clear own0 f0
    by_cases hlt : k < ids.length
    · have i0 : (0 : Int) ≤ (k : Int) := by omega
      have i1 : (k : Int) < (ids.length : Int) := by omega
      obtain ⟨gB, oB, rfl⟩ := hB.ad (by omega)
      have rk := (hB.fr0 hf).id k hlt
      have hts : ids.take (k + 1) = ids.take k ++ [ids[k]] := List.take_succ_eq_append_getElem hlt
      generalize ids[k] = x at rk hts
      have HTS := Lib.hid hts
      clear hts
      go_wp2_with fail
      go_at_call 15
      refine (find_any _ A c _ m rfl (h.fr0 hf) hb x).mono ?_
      rintro e w1 ⟨rfl, f1⟩
      have ho1 := ho.frX f1 (by simp [noB])
      have hf1 := hf.step0 f1
      by_cases hx : findN m x < m.length
      · have e1 : findI m x = (findN m x : Int) := by unfold findI; rw [if_pos hx]
        have e2 := findN_at hx
        rw [e1]
        generalize findN m x = a at hx e2 ⊢
        have a0 : (0 : Int) ≤ (a : Int) := by omega
        have a1 : (a : Int) < (m.length : Int) := by omega
        have hc := ho1.cell hx (by rw [List.getElem?_map, List.getElem?_eq_getElem hx]; rfl)
        have hz := ho1.froz a
        obtain ⟨ho2, f2⟩ := ho1.put a (.bool true)
        rw [set_map (f' := fun q => .bool (decide (q.1 ∈ ids.take (k + 1)))) m _ a hx _ (by simp [HTS.out, e2]) (fun j hj hne => by
          have : (m[j]).1 ≠ x := fun e => hne (key_inj HK.out hj hx (by rw [e, e2]))
          simp [HTS.out, this])] at ho2
        have HO2 := Lib.hid ho2
        clear ho2 e2 e1 ho rk
        go_wp2_with fail
        go_roundg (ids.length - (k + 1))
        case measure => omega
        case rel => exact ⟨k + 1, by simp, rfl, by omega, HO2.out, hf1.step1 f2 (Nat.le_refl _)⟩
      · have e1 : findI m x = -1 := by unfold findI; rw [if_neg hx]
        have ho2 := ho1
        rw [show (m.map fun q => Value.bool (decide (q.1 ∈ ids.take k))) = m.map fun q => .bool (decide (q.1 ∈ ids.take (k + 1))) from List.map_congr_left (fun q hq => by
          have : q.1 ≠ x := fun e => by
            obtain ⟨j, hj, rfl⟩ := List.getElem_of_mem hq
            have := findN_min hj e
            omega
          simp [HTS.out, this])] at ho2
        rw [e1]
        have HO2 := Lib.hid ho2
        clear ho2 e1 ho ho1 rk
        go_wp2_with fail
        go_roundg (ids.length - (k + 1))
        case measure => omega
        case rel => exact ⟨k + 1, by simp, rfl, by omega, HO2.out, hf1⟩
    · have ek : k = ids.length := by omega
      subst ek
      rw [List.take_length] at ho
      rw [show (m.map fun q => Value.bool (decide (q.1 ∈ ids))) = m.map fun q => .bool (mkB m ids m.length q.1) from List.map_congr_left (fun q hq => by rw [mkB_n])] at ho
      have w1' : wrap64 ((m.length : Int) - 1) = m.length - 1 := by unfold wrap64; omega
      go_wp2_with fail
      go_loopg [8, 9] m.length (fun gk kv v9 wr => Rc2 w m ids gk kv wr)
      case atStart => exact ⟨m.length, _, rfl, by first | rfl | omega, rfl, Nat.le_refl _, ho, hf⟩
      case round =>
        obtain ⟨t, v, rfl, hv, hgk, ht, ho, hf⟩ := hrel
        cases t with
        | zero =>
          have nv : ¬ ((0 : Int) ≤ v) := by omega
          have nv2 : decide ((0 : Int) ≤ v) = false := by simpa using nv
          rw [show (m.map fun q => Value.bool (mkB m ids 0 q.1)) = m.map fun q => .bool (reB m.reverse ids q.1) from List.map_congr_left (fun q hq => by
            obtain ⟨j, hj, rfl⟩ := List.getElem_of_mem hq
            rw [mkB_0 HK.out ids j hj])] at ho
          have HO := Lib.hid ho
          clear ho
          go_wp2_with fail
          go_ret
          exact ⟨w.heap.size, rfl, HO.out, hf⟩
        | succ i =>
          obtain rfl : v = (i : Int) := by omega
          clear hv
          have hi : i < m.length := by omega
          have i0 : (0 : Int) ≤ (i : Int) := by omega
          have i1 : (i : Int) < (m.length : Int) := by omega
          obtain ⟨g, off, rfl⟩ := h.ad (by omega)
          obtain ⟨B2, c2, hr0, hs0⟩ := h.at i hi
          have hplt := par_lt HK.out i hi
          have hpl := ps_len HK.out i hi
          have hat := mkB_at HK.out ids i hi
          have hstep := mkB_step m ids i hi
          have hsl0 := hr0.sl
          have hlg := hr0.lt
          simp only at hsl0
          have hse : ∀ w', Fr noB w w' → w'.cell? ⟨g, off + i * 33 + 32, none⟩ = some (.slice B2 (m[i]).2.length c2) := fun w' f => (hr0.fr f (by simp [noB])).sl
          have HHAT := Lib.hid hat
          have HSTEP := Lib.hid hstep
          have HPLT := Lib.hid hplt
          clear hat hstep hplt hr0 hsl0
          generalize hbb : reB m.reverse ids (m[i]).1 = b at HHAT HSTEP
          generalize hps : (m[i]).2 = ps at HSTEP HPLT hpl hs0 hse
          have HPS := Lib.hid hps
          have HSE := Lib.hid hse
          clear hbb hps hse
          have hsl := HSE.out _ hf
          go_wp2_with fail
          go_loopg [9] ps.length (fun gk kv wr => Rc3 w m ids i ps b gk kv wr)
          case atStart => exact ⟨0, rfl, rfl, by omega, fun _ => rfl, by simpa using ho, hf⟩
          case round =>
            obtain ⟨k, rfl, rfl, hkl, hbk, ho3, hf3⟩ := hrel
            clear ho hf
            clear hsl
            have hsl := HSE.out _ hf3
            have HBK := Lib.hid hbk
            clear hbk
            by_cases hlt : k < ps.length
            · have k0 : (0 : Int) ≤ (k : Int) := by omega
              have k1 : (k : Int) < (ps.length : Int) := by omega
              have hci : (m.map fun q => Value.bool (mkB m ids (i + 1) q.1 || decide (q.1 ∈ ps.take k)))[i]? = some (.bool b) := by
                rw [List.getElem?_map, List.getElem?_eq_getElem hi]
                simp only [Option.map_some, HHAT.out]
                cases b with
                | true => rfl
                | false => rw [HBK.out rfl]; simp
              have hc := ho3.cell hi hci
              cases b with
              | false =>
                obtain rfl := HBK.out rfl
                rw [show (m.map fun q => Value.bool (mkB m ids (i + 1) q.1 || decide (q.1 ∈ ps.take 0))) = m.map fun q => .bool (mkB m ids i q.1) from List.map_congr_left (fun q hq => by rw [HSTEP.out]; simp)] at ho3
                have HO3 := Lib.hid ho3
                clear ho3 hci
                go_wp2_with fail
                go_roundg i
                case measure => omega
                case rel => exact ⟨i, _, rfl, by first | rfl | omega | simp, rfl, by omega, HO3.out, hf3⟩
              | true =>
                obtain ⟨gp, op, rfl⟩ := hs0.ad (by omega)
                have rp := (hs0.fr0 hf3).id k hlt
                have hts : ps.take (k + 1) = ps.take k ++ [ps[k]] := List.take_succ_eq_append_getElem hlt
                have hpi := HPLT.out _ (List.getElem_mem hlt)
                generalize ps[k] = p at rp hts hpi
                have HT := Lib.hid hts
                clear hts hci
                go_wp2_with fail
                go_at_call 15
                refine (find_any _ _ c _ m rfl (h.fr0 hf3) hb p).mono ?_
                rintro e w1 ⟨rfl, f1⟩
                have ho1 := ho3.frX f1 (by simp [noB])
                have hf1 := hf3.step0 f1
                have hx : findN m p < m.length := by omega
                have e1 : findI m p = (findN m p : Int) := by unfold findI; rw [if_pos hx]
                have e2 := findN_at hx
                rw [e1]
                generalize findN m p = a at hx e2 hpi ⊢
                have a0 : (0 : Int) ≤ (a : Int) := by omega
                have a1 : (a : Int) < (m.length : Int) := by omega
                have hc2 := ho1.cell hx (by rw [List.getElem?_map, List.getElem?_eq_getElem hx]; rfl)
                have hz := ho1.froz a
                obtain ⟨ho2, f2⟩ := ho1.put a (.bool true)
                rw [set_map (f' := fun q => .bool (mkB m ids (i + 1) q.1 || decide (q.1 ∈ ps.take (k + 1)))) m _ a hx _ (by simp [HT.out, e2]) (fun j hj hne => by
                  have : (m[j]).1 ≠ p := fun e => hne (key_inj HK.out hj hx (by rw [e, e2]))
                  simp [HT.out, this])] at ho2
                have HO2 := Lib.hid ho2
                clear ho2 e2 e1 ho1 ho3 rp hc
                go_wp2_with fail
                go_roundg (ps.length - (k + 1))
                case measure => omega
                case rel => exact ⟨k + 1, by simp, rfl, by omega, (fun h => by cases h), HO2.out, hf1.step1 f2 (Nat.le_refl _)⟩
            · have ek : k = ps.length := by omega
              subst ek
              rw [List.take_length] at ho3
              rw [show (m.map fun q => Value.bool (mkB m ids (i + 1) q.1 || decide (q.1 ∈ ps))) = m.map fun q => .bool (mkB m ids i q.1) from List.map_congr_left (fun q hq => by
                rw [HSTEP.out]
                cases b with
                | true => simp
                | false =>
                  have := HBK.out rfl
                  rw [List.eq_nil_of_length_eq_zero this]; simp)] at ho3
              have HO3 := Lib.hid ho3
              clear ho3
              go_wp2_with fail
              go_roundg i
              case measure => omega
              case rel => exact ⟨i, _, rfl, by first | rfl | omega | simp, rfl, by omega, HO3.out, hf3⟩
end Go.Proofs.Ytchiclnnoealdaa
