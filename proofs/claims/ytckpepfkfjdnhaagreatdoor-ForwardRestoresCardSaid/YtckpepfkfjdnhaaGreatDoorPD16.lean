/-
  Walk: the law ForwardRestores. Conditions: a string that can be in memory, the laid table.
-/
import Derived.Test.YtckpepfkfjdnhaaGreatDoorPD3
import Derived.Test.YtckpepfkfjdnhaaGreatDoorPL0
import Derived.Test.YtckpepfkfjdnhaaGreatDoorPZ
import Derived.Test.YtckpepfkfjdnhaaGreatDoorPJ17
namespace Go.Proofs.YtckpepfkfjdnhaaGreatDoor
open Go.RowKit Go.Sort

theorem ok_few {A : Ar} (h : A.ok = true) : A.l.length ≤ 1024 ∧ A.z.vol.length ≤ 31 ∧ A.z.own.length ≤ 31 ∧ ∀ p ∈ A.l, p.1.length ≤ 100000 ∧ p.2.length ≤ 100000 := by
 obtain ⟨⟨_, h2, h3, h4⟩, h5⟩ := archP_iff.1 h
 refine ⟨h4, h3, h2, fun p hp => ?_⟩
 have := h5 p hp
 unfold prOk at this
 simp only [Bool.and_eq_true, decide_eq_true_eq] at this
 omega
theorem rst_len {s : By} {A : Ar} (h : rstV s = some A) : A.l.length ≤ s.length / 64 := by
 unfold rstV at h
 cases hd : dcdV s with
 | none => rw [hd] at h; cases h
 | some B =>
   rw [hd] at h
   simp only at h
   by_cases hv : B.val = true
   · rw [if_pos hv] at h
     obtain rfl := Option.some.inj h
     unfold dcdV at hd
     cases hs : salvA s with
     | none => rw [hs] at hd; cases hd
     | some C =>
       have hl := salvA_len hs
       rw [hs] at hd
       simp only at hd
       by_cases hc : C.ok = true ∧ C.enc = s
       · rw [if_pos hc] at hd
         obtain rfl := Option.some.inj hd
         exact hl.1
       · rw [if_neg hc] at hd; cases hd
   · rw [if_neg hv] at h; cases h

section
attribute [local go_sem ↓] loadCo_down storeCo_down
set_option maxRecDepth 100000 in
set_option maxHeartbeats 16000000 in
theorem law_restores (s : By) (w : World) (hs63 : s.length ≤ 9223372036854775807) (hc0 : Codes w) :
   Calls Tryz.prog 7 #[.string ⟨s.toArray⟩] w fun e w' => e = .returned (.bool true) ∧ Below w.heap.size w w' := by
 have HC := Lib.hid hc0
 by_cases hl : s.length ≤ 6000
 · have hlI : ¬ (6000 : Int) < (s.length : Int) := by omega
   have HRS := Lib.hid (restore_any s w (by omega) hc0)
   clear hc0
   cases hr : rstV s with
   | none =>
     rw [hr] at HRS
     clear hr
     go_enter Tryz.func7, Tryz.ntmps7
     go_wp2_with fail
     refine HRS.out.mono ?_
     rintro e w2 h2
     obtain rfl := h2.bad rfl
     have hb2 := h2.bel
     have hz := heap_alloc_new w2 (.cells conZ 26)
     have st := storeCo_at (cs := conZ) hz rfl rfl (by simp [Value.oneCell'])
     have hg3 := setRow_heap _ _ _ conZ _ _ hz
     have hb3 : Below w2.heap.size w2 ((w2.alloc (.cells conZ 26)).setRow w2.heap.size conZ) := below_setRow (box_below0 w2 conZ 26) (Nat.le_refl _) _
     generalize (w2.alloc (.cells conZ 26)).setRow w2.heap.size conZ = w3 at st hg3 hb3
     have c22 := cell_at (i := 22) (v := .slice none 0 0) hg3 rfl
     have HB3 := Lib.hid (hb2.trans (hb3.mono hb2.size))
     have HAW := Lib.hid (awake_any w3 (HC.out.below HB3.out HC.out.pos))
     clear h2 hb2 hz hg3 hb3
     go_wp2_with fail
     refine HAW.out.mono ?_
     rintro e w4 ⟨rfl, hb4⟩
     go_wp2_with fail
     go_ret
     exact ⟨rfl, HB3.out.trans (hb4.mono HB3.out.size)⟩
   | some A =>
     rw [hr] at HRS
     obtain ⟨hv, hen⟩ := rst_some hr
     have hln := rst_len hr
     obtain ⟨k1, k2, k3, k4⟩ := ok_few (valP_ok hv)
     have HK := Lib.hid k4
     have HV := Lib.hid hv
     have HEN := Lib.hid hen
     clear hr k4 hv hen
     go_enter Tryz.func7, Tryz.ntmps7
     go_wp2_with fail
     refine HRS.out.mono ?_
     rintro e w2 h2
     obtain ⟨a, c, rfl, hp2, hc1, hc2, _⟩ := h2.ok A rfl
     have hb2 := h2.bel
     obtain ⟨w3, st, hg3, hb3⟩ := put_co w2 A.z A.org A.fmt A.len A.blk A.ap a A.l.length c
     have HB3 := Lib.hid (hb2.trans (hb3.mono hb2.size))
     have HP3 := Lib.hid (hp2.below hb3)
     have HG3 := Lib.hid hg3
     have HS23 := Lib.hid hb3.size
     have l3 := loadCo_at hg3 rfl
     have HDU := Lib.hid (dump_any A w3 w2.heap.size a c HP3.out HS23.out (by omega) (by omega) (by omega) (HC.out.below HB3.out HC.out.pos) HK.out)
     rw [if_pos HV.out, show A.enc = s from HEN.out] at HDU
     clear h2 hb2 hg3 hb3 hp2
     go_wp2_with fail
     clear st
     refine HDU.out.mono ?_
     rintro e w4 ⟨rfl, hb4⟩
     have HB4 := Lib.hid (HB3.out.trans (hb4.mono HB3.out.size))
     have l4 := loadCo_at (heap_below hb4 (lt_of_block HG3.out) HG3.out) rfl
     have HRV := Lib.hid (r49valid_any (z := A.z) w4 w2.heap.size a c A.l A.org A.fmt A.len A.blk A.ap (HP3.out.below (hb4.mono HS23.out)) (Nat.le_trans HS23.out hb4.size) (by omega) hc1 (by omega) (by omega) HK.out)
     rw [show valP A.z A.org A.fmt A.len A.blk A.ap A.l = true from HV.out] at HRV
     clear hb4 l3 HDU
     go_wp2_with fail
     refine HRV.out.mono ?_
     rintro e w5 ⟨rfl, hb5⟩
     have HB5 := Lib.hid (HB4.out.trans (hb5.mono HB4.out.size))
     have HAW := Lib.hid (awake_any w5 (HC.out.below HB5.out HC.out.pos))
     clear hb5 l4
     go_wp2_with fail
     refine HAW.out.mono ?_
     rintro e w6 ⟨rfl, hb6⟩
     go_wp2_with fail
     go_ret
     exact ⟨rfl, HB5.out.trans (hb6.mono HB5.out.size)⟩
 · have hlI : (6000 : Int) < (s.length : Int) := by omega
   have HAW := Lib.hid (awake_any w hc0)
   clear hc0
   go_enter Tryz.func7, Tryz.ntmps7
   go_wp2_with fail
   refine HAW.out.mono ?_
   rintro e w2 ⟨rfl, hb2⟩
   go_wp2_with fail
   go_ret
   exact ⟨rfl, hb2⟩
end

end Go.Proofs.YtckpepfkfjdnhaaGreatDoor
