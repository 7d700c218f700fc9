/- The map of rows by their parents, as it is built: each place's rows in a row of the call's own, no two in one block. -/
import Derived.Test.YtnkdnbjmhoegkaaGreatMapEnKq
import Derived.Test.YtnkdnbjmhoegkaaGreatRowCKq
import Derived.Test.YtnkdnbjmhoegkaaGreatFrameOKq
set_option linter.unusedVariables false
set_option linter.unusedSimpArgs false
namespace Go.Proofs.YtnkdnbjmhoegkaaGreat
open Go.RowKit Go.Maps Go.Sort
theorem look_putZ {κ:Type} [DecidableEq κ] (kv:List (κ × Value)) (k q:κ) (v:Value):look (putL kv k v) q = if q = k then some v else look kv q:=by
 unfold putL
 split
 ·rename_i h
  unfold look at h ⊢
  induction kv with
  | nil=>simp at h
  | cons x kv ih =>
   rw [List.map_cons,List.find?_cons]
   by_cases hx:x.1 = k
   ·rw [if_pos hx]
    by_cases hq:q = k
    ·subst hq;simp
    ·have h1:¬ k = q:=fun e=>hq e.symm
     have h2:¬ x.1 = q:=fun e=>hq (by rw [← e];exact hx)
     simp only [h1,decide_false]
     rw [if_neg hq,List.find?_cons]
     simp only [h2,decide_false]
     by_cases hk:((kv.find? fun p=>decide (p.1 = k)).map (·.2)).isSome
     ·have:=ih hk
      rw [if_neg hq] at this;exact this
     ·have hn:(kv.map fun p=>if p.1 = k then (k,v) else p) = kv:=by
       conv=>rhs;rw [← List.map_id kv]
       refine List.map_congr_left fun p hp=>?_
       have hpk:p.1 ≠ k:=fun e=>hk (by
        have:(kv.find? fun p=>decide (p.1 = k)).isSome:=List.find?_isSome.2 ⟨p,hp,by simp [e]⟩
        cases hf:kv.find? fun p=>decide (p.1 = k) with
        | none=>rw [hf] at this;cases this
        | some y=>rfl)
       simp [hpk]
      rw [hn]
   ·rw [if_neg hx]
    have h':((kv.find? fun p=>decide (p.1 = k)).map (·.2)).isSome:=by
     rw [List.find?_cons] at h
     simpa [hx] using h
    have:=ih h'
    by_cases hxq:x.1 = q
    ·have hqk:q ≠ k:=fun e=>hx (hxq.trans e)
     rw [if_neg hqk,List.find?_cons]
     simp [hxq]
    ·simp only [hxq,decide_false]
     rw [this]
     split
     ·rfl
     ·rw [List.find?_cons];simp [hxq]
 ·rename_i h
  have hn:look kv k = none:=by cases hl:look kv k with | none=>rfl | some u=>rw [hl] at h;exact absurd rfl h
  unfold look at hn ⊢
  rw [Option.map_eq_none_iff] at hn
  rw [List.find?_append]
  by_cases hq:q = k
  ·subst hq;rw [hn];simp
  ·rw [if_neg hq]
   cases hf:kv.find? fun p=>decide (p.1 = q) with
   | some y=>simp
   | none=>have h1:¬ k = q:=fun e=>hq e.symm;simp [h1]
theorem mpT_entry {t E:TypeId} (ht:Tryz.prog.underlying t = some (.map 24 E)) {w:World} {M:Nat} {kv:List (St × Value)} {z:Value} (hz:(zeroValue E).run Tryz.prog w = .ok z w) (h:mpT w M = some kv) {p:St} (hp:wfS p = true) :
  ∃ born w1 kv1,(Instr.mapEntry t (.map (some M)) (.agg (codS.A p))).run Tryz.prog w = .ok (.tuple #[(look kv p).getD z,.int .i64 ((born:Nat):Int)]) w1 ∧ EnAt encK w1 M kv1 ⟨p,hp⟩ born ∧ (∀ v,upK (putL kv1 ⟨p,hp⟩ v) = putL kv p v) ∧ Fr (oneB M) w w1 ∧ w1.heap.size = w.heap.size:=by
 obtain ⟨kv',rfl,hm⟩:=mpT_mp h
 obtain ⟨born,w1,h1,h2,h3,h4⟩:=hm.entry keyK ht hz ⟨p,hp⟩
 refine ⟨born,w1,_,?_,h2,fun v=>?_,h3,h4⟩
 ·rw [look_upK kv' ⟨p,hp⟩];exact h1
 ·rw [putL_new,← putL_upK kv' ⟨p,hp⟩ v]
theorem EnAt.storeT {w:World} {M:Nat} {kv1:List (KS × Value)} {k:KS} {born:Nat} (h:EnAt encK w M kv1 k born) (t:TypeId) (v:Value) :
  ∃ w2,(Instr.entryStore t (.map (some M)) (.int .i64 (born:Int)) v).run Tryz.prog w = .ok () w2 ∧ mpT w2 M = some (upK (putL kv1 k v)) ∧ Fr (oneB M) w w2 ∧ w2.heap.size = w.heap.size:=by
 obtain ⟨w2,h1,h2,h3,h4⟩:=h.store keyK t v
 exact ⟨w2,h1,h2.mpT,h3,h4⟩
def filZ (ws:List RwW) (p:St):List RwW:=ws.filter fun r=>decide (r.Parent = p)
structure KidO (W w:World) (kv:List (St × Value)) (ws:List RwW) (f:St → Option Addr × Nat):Prop where
 at_:∀ p,(look kv p).getD (.slice none 0 0) = .slice (f p).1 (filZ ws p).length (f p).2
 own:∀ p,OwnC codR W w (f p).1 (f p).2 (filZ ws p)
 ap:∀ p q a b,p ≠ q → (f p).1.map (·.block) = some a → (f q).1.map (·.block) = some b → a ≠ b
theorem KidO.nil (W w:World):KidO W w [] [] fun _=>(none,0):=⟨fun p=>rfl,fun p=>World.ownsRow_nil _ _ _ _,fun p q a b _ h=>by cases h⟩
theorem KidO.map {W w w':World} {kv:List (St × Value)} {ws:List RwW} {f:St → Option Addr × Nat} (h:KidO W w kv ws f) (k:∀ (v:Value) (n:Nat) (l:List Value),w.ownsRow W.heap.size 28 8 v n l → w'.ownsRow W.heap.size 28 8 v n l):KidO W w' kv ws f :=
 ⟨h.at_,fun p=>k _ _ _ (h.own p),h.ap⟩
theorem own_map {w w':World} {base M:Nat} {e:TypeId} {size n:Nat} {v:Value} {xs:List Value} {kv:List (St × Value)} (h:w.ownsRow base e size v n xs) (hm:mpT w M = some kv) (f:Fr (oneB M) w w'):w'.ownsRow base e size v n xs :=
 own_fr h f fun g hg e=>by
  have e:g = M:=e
  subst e
  rcases h.2 with ⟨rfl,_⟩ | ⟨g',cap,cur,rfl,_,hh,_⟩
  ·simp [Value.ownBlock] at hg
  ·have:g' = g:=by simpa [Value.ownBlock] using hg
   subst this
   exact mpT_ne hm hh rfl
theorem own_mapE {w w':World} {base M:Nat} {e:TypeId} {size n:Nat} {v:Value} {xs:List Value} {kv:List (KS × Value)} (h:w.ownsRow base e size v n xs) (hm:MapL encK w M kv) (f:Fr (oneB M) w w'):w'.ownsRow base e size v n xs:=own_map h hm.mpT f
theorem KidO.snoc {W w w':World} {kv kv':List (St × Value)} {ws:List RwW} {f:St → Option Addr × Nat} (h:KidO W w kv ws f) {r:RwW} {A:Option Addr} {c:Nat} (ho:OwnC codR W w' A c (filZ ws r.Parent ++ [r])) (fg:Fr (fun b=>(f r.Parent).1.map (·.block) = some b) w w') (hA:A.map (·.block) = (f r.Parent).1.map (·.block) ∨ A.map (·.block) = some w.heap.size)
  (hk:kv' = putL kv r.Parent (.slice A (filZ ws r.Parent ++ [r]).length c)):KidO W w' kv' (ws ++ [r]) fun q=>if q = r.Parent then (A,c) else f q:=by
 have hf:∀ q,filZ (ws ++ [r]) q = if q = r.Parent then filZ ws r.Parent ++ [r] else filZ ws q:=fun q=>by
  unfold filZ
  rw [List.filter_append]
  by_cases hq:q = r.Parent
  ·subst hq;simp
  ·have:¬ r.Parent = q:=fun e=>hq e.symm
   simp [hq,this]
 refine ⟨fun q=>?_,fun q=>?_,fun p q a b hne ha hb=>?_⟩
 ·rw [hk,look_putZ,hf]
  by_cases hq:q = r.Parent
  ·simp only [hq,if_true,Option.getD_some]
  ·simp only [hq,if_false];exact h.at_ q
 ·rw [hf]
  by_cases hq:q = r.Parent
  ·simp only [hq,if_true];exact ho
  ·simp only [hq,if_false]
   exact own_fr (h.own q) fg fun g hg e=>by
    have hg2:(f q).1.map (·.block) = some g:=by rw [ownBlock_sl'] at hg;exact hg
    exact h.ap r.Parent q g g (fun e=>hq e.symm) e hg2 rfl
 ·have lt:∀ {x g},(f x).1.map (·.block) = some g → g < w.heap.size:=fun {x g} hx=>(own_lt (h.own x) g hx).2
  by_cases hp:p = r.Parent
  ·by_cases hq:q = r.Parent
   ·exact absurd (hp.trans hq.symm) hne
   ·simp only [hp,if_true] at ha
    simp only [hq,if_false] at hb
    rcases hA with hA | hA
    ·rw [hA] at ha
     exact h.ap r.Parent q a b (fun e=>hq e.symm) ha hb
    ·rw [hA] at ha;injection ha with ha
     have:=lt hb;omega
  ·simp only [hp,if_false] at ha
   by_cases hq:q = r.Parent
   ·simp only [hq,if_true] at hb
    rcases hA with hA | hA
    ·rw [hA] at hb
     exact h.ap p r.Parent a b hp ha hb
    ·rw [hA] at hb;injection hb with hb
     have:=lt ha;omega
   ·simp only [hq,if_false] at hb
    exact h.ap p q a b hne ha hb
end Go.Proofs.YtnkdnbjmhoegkaaGreat
