/-
  Contracts for any format: what is allowed, what is packed, by the program and by the reference.
-/
import Derived.Test.YthkpcalopmddpaaDoorS26
import Derived.Test.YthkpcalopmddpaaDoorS29
import Derived.Test.YthkpcalopmddpaaDoorS31
import Derived.Test.YthkpcalopmddpaaDoorS33
import Derived.Test.YthkpcalopmddpaaDoorS34
namespace Go.Proofs.YthkpcalopmddpaaDoor
open Go.RowKit Go.Sort

theorem not_any_not (l : List By) (p : By → Bool) : (!(l.any fun r => !(p r))) = l.all p := by
  induction l with
  | nil => rfl
  | cons x l ih => rw [List.any_cons, List.all_cons, ← ih, Bool.not_or, Bool.not_not]
theorem allowed_any (org fmt len blk : Int) (w : World) (B : Nat) (a : Option Addr) (cap : Nat) (l : List By) (h : Strs w B a l) (hB : B ≤ w.heap.size) (hl : l.length ≤ 1000000) :
    Calls Tryd.prog 32 #[.agg (dsv org fmt len blk), .slice a l.length cap] w fun e w' => e = .returned (.bool (alwV fmt len l)) ∧ Below w.heap.size w w' := by
  by_cases h0 : fmt = 0
  · subst h0
    have e : alwV 0 len l = !(l.any fun r => !(decide ((r.length : Int) = len))) := by rw [not_any_not]; unfold alwV; congr 1
    rw [e]; exact allowed0_any org len blk w B a cap l h hB hl
  · have e : alwV fmt len l = !(l.any fun r => !(decide ((r.length : Int) ≤ len))) := by rw [not_any_not]; unfold alwV; congr 1; funext r; unfold okR; rw [if_neg h0]
    rw [e]
    by_cases h1 : fmt = 1
    · subst h1; exact allowed1_any org len blk w B a cap l h hB hl
    · exact allowed2_any org fmt len blk h0 h1 w B a cap l h hB hl
theorem pack_any (fmt : Int) (len blk : Nat) (ap : Int) (w : World) (B : Nat) (a : Option Addr) (cap : Nat) (l : List By) (h : Strs w B a l) (hB : B ≤ w.heap.size) (hl : l.length ≤ 900) (hd : dsV 0 fmt len blk = true) (ha : alwV fmt len l = true)
    (hcap : l.length ≤ cap) (hc63 : cap ≤ 9223372036854775807) (hc0 : Codes w) :
    Calls Tryd.prog 33 #[.agg (dsv 0 fmt len blk), .int .i64 ap, .slice a l.length cap] w fun e w' =>
      ∃ bv, e = .returned (.agg #[.int .i64 ap, .slice a l.length cap, bv, .string ⟨(streamOf (packV fmt len blk l)).toArray⟩]) ∧ w'.ownsRow w.heap.size 9 1 bv (packV fmt len blk l).length ((packV fmt len blk l).map sv) ∧ Below w.heap.size w w' := by
  have hbd := packV_bd fmt len blk l hd ha hl
  have hs := fun x hx => Nat.le_trans (hbd.sml x hx) (show 1024 ≤ 60000 by omega)
  have hf := Nat.le_trans hbd.few (show 900900 ≤ 10000000 by omega)
  rcases ds_parts hd with ⟨rfl, hv⟩ | ⟨rfl, hv⟩ | ⟨rfl, hv⟩
  · have e : packV 0 len blk l = fixA (blk / len) l.length l := by unfold packV; rw [if_pos rfl]
    rw [e] at hs hf ⊢
    rw [alw0, List.all_eq_true] at ha
    exact pack0_any 0 len blk ap w B a cap l h hB hl hv hcap hc63 (fun r hr => by simpa using ha r hr) hs (e ▸ hbd.all) hf
  · have e : packV 1 len blk l = varA blk l := by unfold packV; rw [if_neg (by decide), if_pos rfl]
    rw [e] at hs hf ⊢
    rw [alw1 1 (by decide), List.all_eq_true] at ha
    exact pack1_any 0 len blk ap w B a cap l h hB hl hv (fun r hr => by simpa using ha r hr) hs (e ▸ hbd.all) hf
  · have e : packV 2 len blk l = spanA blk l := by unfold packV; rw [if_neg (by decide), if_neg (by decide)]
    rw [e] at hs hf ⊢
    rw [alw1 2 (by decide), List.all_eq_true] at ha
    exact pack2_any 0 2 len blk (by decide) (by decide) ap w B a cap l h hB hl hv (fun r hr => by simpa using ha r hr) hc0 hs (e ▸ hbd.all) hf
theorem PackPost.cast {w w' : World} {ok : Bool} {V V' : List By} {e : Ending} (h : PackPost w ok V e w') (hV : ok = true → V = V') : PackPost w ok V' e w' :=
  ⟨fun hk => by rw [← hV hk]; exact h.good hk, h.bad, h.bel⟩
theorem rpack_any (fmt : Int) (len blk : Nat) (w : World) (B : Nat) (a : Option Addr) (cap : Nat) (l : List By) (h : Strs w B a l) (hB : B ≤ w.heap.size) (hl : l.length ≤ 900) (hd : dsV 0 fmt len blk = true) :
    Calls Tryd.prog 36 #[.agg (dsv 0 fmt len blk), .slice a l.length cap] w fun e w' => PackPost w (alwV fmt len l) (packV fmt len blk l) e w' := by
  rcases ds_parts hd with ⟨rfl, hv⟩ | ⟨rfl, hv⟩ | ⟨rfl, hv⟩
  · have hb : 1 ≤ (len : Int) ∧ (len : Int) ≤ 1000 ∧ (len : Int) ≤ blk ∧ (blk : Int) ≤ 1024 := by have h := hv; simp [fixV] at h; omega
    have hm : 0 < blk / len := (Nat.le_div_iff_mul_le (by omega)).2 (by omega)
    have e : fixB (blk / len) l = packV 0 len blk l := by unfold packV; rw [if_pos rfl, fixB_eq _ hm]
    rw [alw0]
    exact (rpack0_any 0 len blk w B a cap l h hB hl hv).mono fun _ _ hp => hp.cast fun _ => e
  · have hb : 1 ≤ (len : Int) ∧ (len : Int) ≤ 1000 ∧ (len : Int) + 8 ≤ blk ∧ (blk : Int) ≤ 1024 := by have h := hv; simp [varV] at h; omega
    have e : (l.all fun r => decide (r.length ≤ len)) = true → varB blk l = packV 1 len blk l := fun ha => by
      rw [List.all_eq_true] at ha
      unfold packV; rw [if_neg (by decide), if_pos rfl, varB_eq blk len (by omega) l (fun r hr => by simpa using ha r hr)]
    rw [alw1 1 (by decide)]
    exact (rpack1_any 0 len blk w B a cap l h hB hl hv).mono fun _ _ hp => hp.cast e
  · have e : spanA blk l = packV 2 len blk l := by unfold packV; rw [if_neg (by decide), if_neg (by decide)]
    rw [alw1 2 (by decide)]
    exact (rpack2_any 0 2 len blk (by decide) (by decide) w B a cap l h hB hl hv).mono fun _ _ hp => hp.cast fun _ => e

end Go.Proofs.YthkpcalopmddpaaDoor
