/- Contracts: the references' helpers on bytes (SameBytes, Join). -/
import Derived.Test.YtejkfekpgbmdiaaGreatEnc
import Derived.Deep.QuietTactic
import Derived.BigQuiet
namespace Go.Proofs.YtejkfekpgbmdiaaGreat
open Go.RowKit
set_option linter.unusedVariables false
set_option linter.unusedSimpArgs false

theorem byte_ne {a b : UInt8} (h : (a.toNat : Int) = b.toNat) : a = b := UInt8.toNat_inj.1 (by omega)

def BoolTo (w : World) (b : Bool) (e : Ending) (w' : World) : Prop := e = .returned (.bool b) ∧ Fr noB w w'

theorem Sl.bytes {w : World} {A : Option Addr} {l : List UInt8} (h : Sl w A (bv l)) (hne : 0 < l.length) : ∃ g off, A = some ⟨g, off, none⟩ ∧ g < w.heap.size ∧ ∀ j (hj : j < l.length), w.cell? ⟨g, off + j, none⟩ = some (.int .u8 ((l[j]).toNat : Int)) := by
  obtain ⟨g, off, e, hg, hc⟩ := h (by intro h0; have : (bv l).length = 0 := by rw [h0]; rfl
                                      rw [bv_length] at this; omega)
  exact ⟨g, off, e, hg, fun j hj => hc j _ (bv_get l j hj)⟩

set_option maxHeartbeats 400000 in
theorem same_any (w : World) (A B : Option Addr) (c d : Nat) (l m : List UInt8) (hA : Sl w A (bv l)) (hB : Sl w B (bv m)) (hl : l.length ≤ 140737488355328) (hm : m.length ≤ 140737488355328) :
    Calls Tryz.prog 12 #[.slice A l.length c, .slice B m.length d] w (BoolTo w (decide (l = m))) := by
  by_cases hlen : l.length = m.length
  · have e1 : (((l.length : Nat) : Int) != ((m.length : Nat) : Int)) = false := by simp [hlen]
    have HL := Lib.hid hlen
    have hle : l.length ≤ m.length := by omega
    have hge : m.length ≤ l.length := by omega
    clear hlen
    go_enter Tryz.func12, Tryz.ntmps12
    go_wp2
    go_loopw [5] (fun iv wr => ∃ k : Nat, k ≤ l.length ∧ iv = .int .i64 k ∧ Hid (l.take k = m.take k) ∧ Fr noB w wr) (fun iv _ => l.length - (intOf iv).toNat)
    case atStart => exact ⟨0, Nat.zero_le _, rfl, by simp [Hid], Fr.refl _ _⟩
    case round =>
      obtain ⟨k, hk, rfl, hh, hf⟩ := hrel
      by_cases hlt : k < l.length
      · obtain ⟨g, off, rfl, _, hc⟩ := (hA.fr0 hf).bytes (by omega)
        obtain ⟨g', off', rfl, _, hc'⟩ := (hB.fr0 hf).bytes (by omega)
        have c1 := hc k hlt
        have c2 := hc' k (by omega)
        clear hc hc'
        have hltm : k < m.length := by omega
        by_cases he : l[k] = m[k]
        · have e2 : (((l[k]).toNat : Int) != ((m[k]).toNat : Int)) = false := by rw [he]; simp
          have HE := Lib.hid he
          clear he
          go_wp2
          go_quiet (fail)
          go_wp2
          go_roundw
          case rel => exact ⟨k + 1, by omega, by go_num, by rw [Hid, List.take_succ_eq_append_getElem hlt, List.take_succ_eq_append_getElem hltm, hh.out, HE.out], hf.drewN _⟩
          case measure => simp [intOf]; omega
        · have e2 : (((l[k]).toNat : Int) != ((m[k]).toNat : Int)) = true := by
            rw [bne_iff_ne]; intro h; exact he (byte_ne h)
          have HE := Lib.hid he
          clear he
          go_wp2
          go_quiet (fail)
          go_wp2
          go_ret
          refine ⟨?_, hf.drewN _⟩
          have : l ≠ m := by rintro rfl; exact HE.out rfl
          simp [this]
      · go_wp2
        go_ret
        refine ⟨?_, hf⟩
        have h1 := hh.out
        rw [List.take_of_length_le (by omega), List.take_of_length_le (by omega)] at h1
        simp [h1]
  · have e1 : (((l.length : Nat) : Int) != ((m.length : Nat) : Int)) = true := by rw [bne_iff_ne]; omega
    have HL := Lib.hid hlen
    clear hlen
    go_enter Tryz.func12, Tryz.ntmps12
    go_wp2
    go_ret
    refine ⟨?_, Fr.refl _ _⟩
    have : l ≠ m := by rintro rfl; exact HL.out rfl
    simp [this]

set_option maxHeartbeats 1000000 in
theorem join_any (w : World) (A B : Option Addr) (c d : Nat) (l m : List UInt8) (hA : Sl w A (bv l)) (hB : Sl w B (bv m)) (hl : l.length + m.length ≤ 140737488355328) :
    Calls Tryz.prog 13 #[.slice A l.length c, .slice B m.length d] w (NewBytes w (l ++ m)) := by
  have hown := World.ownsRow_lit (base := w.heap.size) (e := 5) (size := 1) w #[] 0 (Nat.le_refl _) (by simp [maxLen]) rfl
  go_enter Tryz.func13, Tryz.ntmps13
  go_wp2
  go_loopw [5, 6] (fun v iv wr => ∃ k : Nat, k ≤ l.length ∧ iv = .int .i64 k ∧ wr.ownsRow w.heap.size 5 1 v k (bv (l.take k)) ∧ Fr noB w wr) (fun _ iv _ => l.length - (intOf iv).toNat)
  case atStart => exact ⟨0, Nat.zero_le _, rfl, hown, (Fr.refl noB w).alloc _⟩
  case round =>
    obtain ⟨k, hk, rfl, ho, hf⟩ := hrel
    by_cases hlt : k < l.length
    · obtain ⟨g, off, rfl, _, hc⟩ := (hA.fr0 hf).bytes (by omega)
      have c1 := hc k hlt
      have HS := Sl.new wr 5 [.int .u8 ((l[k]).toNat : Int)]
      clear hc
      go_wp2_with (at_builtin; refine wpList_app _ etBytes rfl _ _ rfl w.heap.size _ _ _ rfl (ho.alloc _) _ 1 1 [.int .u8 ((l[k]).toNat : Int)] rfl HS rfl (by simp [Value.oneCell']) (by omega) (by have := hf.size; simp; omega) ?_; intro v' w1 h1 h2 h3)
      go_roundw
      case rel => exact ⟨k + 1, by omega, by go_num, by rw [List.take_succ_eq_append_getElem hlt, bv_append]; exact h1, (hf.alloc _).stepG h2 (fun g hg => (ho.lt g hg).1)⟩
      case measure => simp [intOf]; omega
    · obtain rfl : k = l.length := by omega
      rw [List.take_length] at ho
      go_wp2
      go_loopw [5, 7] (fun v iv wr => ∃ k : Nat, k ≤ m.length ∧ iv = .int .i64 k ∧ wr.ownsRow w.heap.size 5 1 v (l.length + k) (bv (l ++ m.take k)) ∧ Fr noB w wr) (fun _ iv _ => m.length - (intOf iv).toNat)
      case atStart => exact ⟨0, Nat.zero_le _, rfl, by simpa using ho, hf⟩
      case round =>
        clear ho hf
        obtain ⟨k, hk, rfl, ho, hf⟩ := hrel
        by_cases hlt : k < m.length
        · obtain ⟨g, off, rfl, _, hc⟩ := (hB.fr0 hf).bytes (by omega)
          have c1 := hc k hlt
          have HS := Sl.new wr 5 [.int .u8 ((m[k]).toNat : Int)]
          clear hc
          go_wp2_with (at_builtin; refine wpList_app _ etBytes rfl _ _ rfl w.heap.size _ _ _ rfl (ho.alloc _) _ 1 1 [.int .u8 ((m[k]).toNat : Int)] rfl HS rfl (by simp [Value.oneCell']) (by omega) (by have := hf.size; simp; omega) ?_; intro v' w1 h1 h2 h3)
          go_roundw
          case rel => exact ⟨k + 1, by omega, by go_num, by rw [List.take_succ_eq_append_getElem hlt, ← List.append_assoc, bv_append]; exact h1, (hf.alloc _).stepG h2 (fun g hg => (ho.lt g hg).1)⟩
          case measure => simp [intOf]; omega
        · obtain rfl : k = m.length := by omega
          rw [List.take_length] at ho
          go_wp2
          go_ret
          exact NewBytes.mk ho hf
end Go.Proofs.YtejkfekpgbmdiaaGreat
