/-
  Walks: Copy. Condition: the log and its copies lie in memory.
  Walks: Format. Condition: the copies lie in memory, or have no sectors.
  Walks: the pieces of a record (the iterator is made). Condition: a record of at most 16384 bytes.
-/
import Derived.Test.YtjpkdhnponcciaaGreatDoorCJ
namespace Go.Proofs.YtjpkdhnponcciaaGreatDoor

section
open Go.RowKit Go.Sort

def cpyV (T F : Cp) : Int × Cp := match T, F, hdC F with
  | some M, some N, some h => ((dupV M N h).1, some (dupV M N h).2)
  | _, _, _ => (9, T)
def copyV (A B : Cp) (s : Bool) : Int × Cp × Cp := if s = true then ((cpyV B A).1, A, (cpyV B A).2) else ((cpyV A B).1, (cpyV A B).2, B)
theorem cpyV_none (T F : Cp) (h : T = none ∨ hdC F = none) : cpyV T F = (9, T) := by
  unfold cpyV
  rcases h with rfl | h
  · rfl
  · rw [h]
    cases T <;> cases F <;> rfl
section
attribute [local go_sem ↓] loadHd_down storeHd_down
set_option maxRecDepth 100000 in
set_option maxHeartbeats 4000000 in
theorem copy_fnn (w : World) (lb : Nat) (ka kb : Bk) (C : Cp) (hx : hdC C = none) (hL : LgAt w lb ka kb none C) (hlen : ∀ M, C = some M → 0 < M.secs.length) :
    Calls Tryz.prog 29 #[.pointer (some ⟨lb, 0, none⟩), .bool false] w fun e w' => e = .returned (.int .i64 9) ∧ LgAt w' lb ka kb none C ∧ Only (fS ka kb none C) w w' := by
  obtain ⟨vf, hvf⟩ : ∃ vf, vf = ifC kb C := ⟨_, rfl⟩
  have c0 : w.cell? ⟨lb, 0, none⟩ = some (.nilIface) := cell_at hL.row rfl
  have c1 : w.cell? ⟨lb, 1, none⟩ = some vf := by rw [hvf]; exact cell_at hL.row rfl
  have HRA := Lib.hid (fun nq => show Calls Tryz.prog 48 #[vf] (w.drewN nq) fun e w' => e = .returned (.tuple #[.agg hwZ.cs, .bool false]) ∧ Below (w.drewN nq).heap.size (w.drewN nq) w' by
    have h := readHead_w (w.drewN nq) kb C (hL.drewN nq).b hlen
    rw [hx, ← hvf] at h
    exact h)
  have HL := Lib.hid hL
  have HV := Lib.hid hvf
  clear hL hvf
  go_enter Tryz.func29, Tryz.ntmps29
  go_upto_region 1 with fail
  go_quiet (fail)
  go_wp2_with fail
  refine (HRA.out _).mono ?_
  rintro e w2 ⟨rfl, hb2⟩
  have hb2 := (below_drewN (Below.refl w.heap.size w) _).trans hb2
  obtain ⟨w3, st3, hg3, hb3⟩ := put_hd w2 hwZ.cs rfl (by simp [Value.oneCell'])
  have HB3 := Lib.hid (hb2.trans (hb3.mono hb2.size))
  clear c0 c1 HRA
  clear hb2 hb3 hg3
  go_wp2_with fail
  go_ret
  exact ⟨rfl, HL.out.below HB3.out, Only.of_below HB3.out⟩
set_option maxRecDepth 100000 in
set_option maxHeartbeats 4000000 in
theorem copy_fns (w : World) (lb : Nat) (ka kb : Bk) (F : Mm) (x : Hw) (hx : hdC (some F) = some x) (_hxn : x.n ≤ F.secs.length) (hL : LgAt w lb ka kb none (some F)) (hlen : ∀ M, (some F) = some M → 0 < M.secs.length) :
    Calls Tryz.prog 29 #[.pointer (some ⟨lb, 0, none⟩), .bool false] w fun e w' => e = .returned (.int .i64 9) ∧ LgAt w' lb ka kb none (some F) ∧ Only (fS ka kb none (some F)) w w' := by
  obtain ⟨vf, hvf⟩ : ∃ vf, vf = ifC kb (some F) := ⟨_, rfl⟩
  have c0 : w.cell? ⟨lb, 0, none⟩ = some (.nilIface) := cell_at hL.row rfl
  have c1 : w.cell? ⟨lb, 1, none⟩ = some vf := by rw [hvf]; exact cell_at hL.row rfl
  have HRA := Lib.hid (fun nq => show Calls Tryz.prog 48 #[vf] (w.drewN nq) fun e w' => e = .returned (.tuple #[.agg x.cs, .bool true]) ∧ Below (w.drewN nq).heap.size (w.drewN nq) w' by
    have h := readHead_w (w.drewN nq) kb (some F) (hL.drewN nq).b hlen
    rw [hx, ← hvf] at h
    exact h)
  have HL := Lib.hid hL
  have HV := Lib.hid hvf
  clear hL hvf
  go_enter Tryz.func29, Tryz.ntmps29
  go_upto_region 1 with fail
  go_quiet (fail)
  go_wp2_with fail
  refine (HRA.out _).mono ?_
  rintro e w2 ⟨rfl, hb2⟩
  have hb2 := (below_drewN (Below.refl w.heap.size w) _).trans hb2
  obtain ⟨w3, st3, hg3, hb3⟩ := put_hd w2 x.cs rfl (by simp [Value.oneCell'])
  have HB3 := Lib.hid (hb2.trans (hb3.mono hb2.size))
  clear c0 c1 HRA
  clear hb2 hb3 hg3
  go_wp2_with fail
  go_ret
  exact ⟨rfl, HL.out.below HB3.out, Only.of_below HB3.out⟩
set_option maxRecDepth 100000 in
set_option maxHeartbeats 4000000 in
theorem copy_fsn (w : World) (lb : Nat) (ka kb : Bk) (T : Mm) (C : Cp) (hx : hdC C = none) (hL : LgAt w lb ka kb (some T) C) (hlen : ∀ M, C = some M → 0 < M.secs.length) :
    Calls Tryz.prog 29 #[.pointer (some ⟨lb, 0, none⟩), .bool false] w fun e w' => e = .returned (.int .i64 9) ∧ LgAt w' lb ka kb (some T) C ∧ Only (fS ka kb (some T) C) w w' := by
  obtain ⟨vf, hvf⟩ : ∃ vf, vf = ifC kb C := ⟨_, rfl⟩
  have c0 : w.cell? ⟨lb, 0, none⟩ = some (.iface 25 (memV ka.p)) := cell_at hL.row rfl
  have c1 : w.cell? ⟨lb, 1, none⟩ = some vf := by rw [hvf]; exact cell_at hL.row rfl
  have HRA := Lib.hid (fun nq => show Calls Tryz.prog 48 #[vf] (w.drewN nq) fun e w' => e = .returned (.tuple #[.agg hwZ.cs, .bool false]) ∧ Below (w.drewN nq).heap.size (w.drewN nq) w' by
    have h := readHead_w (w.drewN nq) kb C (hL.drewN nq).b hlen
    rw [hx, ← hvf] at h
    exact h)
  have HL := Lib.hid hL
  have HV := Lib.hid hvf
  clear hL hvf
  go_enter Tryz.func29, Tryz.ntmps29
  go_upto_region 1 with fail
  go_quiet (fail)
  go_wp2_with fail
  refine (HRA.out _).mono ?_
  rintro e w2 ⟨rfl, hb2⟩
  have hb2 := (below_drewN (Below.refl w.heap.size w) _).trans hb2
  obtain ⟨w3, st3, hg3, hb3⟩ := put_hd w2 hwZ.cs rfl (by simp [Value.oneCell'])
  have HB3 := Lib.hid (hb2.trans (hb3.mono hb2.size))
  clear c0 c1 HRA
  clear hb2 hb3 hg3
  go_wp2_with fail
  go_ret
  exact ⟨rfl, HL.out.below HB3.out, Only.of_below HB3.out⟩
set_option maxRecDepth 100000 in
set_option maxHeartbeats 4000000 in
theorem copy_fss (w : World) (lb : Nat) (ka kb : Bk) (T : Mm) (F : Mm) (x : Hw) (hx : hdC (some F) = some x) (hxn : x.n ≤ F.secs.length) (hL : LgAt w lb ka kb (some T) (some F)) (hlen : ∀ M, (some F) = some M → 0 < M.secs.length) :
    Calls Tryz.prog 29 #[.pointer (some ⟨lb, 0, none⟩), .bool false] w fun e w' => e = .returned (.int .i64 ((dupV T F x).1)) ∧ LgAt w' lb ka kb (some (dupV T F x).2) (some F) ∧ Only (fS ka kb (some T) (some F)) w w' := by
  obtain ⟨vf, hvf⟩ : ∃ vf, vf = ifC kb (some F) := ⟨_, rfl⟩
  have c0 : w.cell? ⟨lb, 0, none⟩ = some (.iface 25 (memV ka.p)) := cell_at hL.row rfl
  have c1 : w.cell? ⟨lb, 1, none⟩ = some vf := by rw [hvf]; exact cell_at hL.row rfl
  have HRA := Lib.hid (fun nq => show Calls Tryz.prog 48 #[vf] (w.drewN nq) fun e w' => e = .returned (.tuple #[.agg x.cs, .bool true]) ∧ Below (w.drewN nq).heap.size (w.drewN nq) w' by
    have h := readHead_w (w.drewN nq) kb (some F) (hL.drewN nq).b hlen
    rw [hx, ← hvf] at h
    exact h)
  have HL := Lib.hid hL
  have HV := Lib.hid hvf
  clear hL hvf
  go_enter Tryz.func29, Tryz.ntmps29
  go_upto_region 1 with fail
  go_quiet (fail)
  go_wp2_with fail
  refine (HRA.out _).mono ?_
  rintro e w2 ⟨rfl, hb2⟩
  have hb2 := (below_drewN (Below.refl w.heap.size w) _).trans hb2
  obtain ⟨w3, st3, hg3, hb3⟩ := put_hd w2 x.cs rfl (by simp [Value.oneCell'])
  have HB3 := Lib.hid (hb2.trans (hb3.mono hb2.size))
  clear c0 c1 HRA
  have HL3 := Lib.hid (HL.out.below HB3.out)
  have HD := Lib.hid (show Calls Tryz.prog 57 #[.iface 25 (memV ka.p), vf, .agg x.cs] w3 fun e w' => e = .returned (.int .i64 (dupV T F x).1) ∧ MmAt w' ka (dupV T F x).2 ∧ Only ka.s w3 w' by
    rw [HV.out]
    exact dup_w w3 ka kb T F x (hdC_ok hx) (HL3.out.a T rfl) (HL3.out.b F rfl) HL.out.dis hxn)
  have ld3 := loadHd_at hg3 rfl
  clear hb2 hb3 hg3
  go_wp2_with fail
  refine HD.out.mono ?_
  rintro e w4 ⟨rfl, hT4, ho4⟩
  have hoo : Only (fS ka kb (some T) (some F)) w3 w4 := ho4.mono (fun k hk _ => List.mem_append.2 (Or.inl hk))
  have HF4 := Lib.hid (show LgAt w4 lb ka kb (some (dupV T F x).2) (some F) ∧ Only (fS ka kb (some T) (some F)) w w4 from
    ⟨HL3.out.upd hoo (fun M e => by cases e; exact hT4) (HL3.out.b.only ho4 (fun y hy hz => HL.out.dis y hz hy)) rfl rfl, (Only.of_below HB3.out).trans hoo⟩)
  clear hT4 ho4 hoo ld3
  go_wp2_with fail
  go_ret
  exact ⟨rfl, HF4.out⟩
set_option maxRecDepth 100000 in
set_option maxHeartbeats 4000000 in
theorem copy_tnn (w : World) (lb : Nat) (ka kb : Bk) (C : Cp) (hx : hdC C = none) (hL : LgAt w lb ka kb C none) (hlen : ∀ M, C = some M → 0 < M.secs.length) :
    Calls Tryz.prog 29 #[.pointer (some ⟨lb, 0, none⟩), .bool true] w fun e w' => e = .returned (.int .i64 9) ∧ LgAt w' lb ka kb C none ∧ Only (fS ka kb C none) w w' := by
  obtain ⟨vf, hvf⟩ : ∃ vf, vf = ifC ka C := ⟨_, rfl⟩
  have c1 : w.cell? ⟨lb, 1, none⟩ = some (.nilIface) := cell_at hL.row rfl
  have c0 : w.cell? ⟨lb, 0, none⟩ = some vf := by rw [hvf]; exact cell_at hL.row rfl
  have HRA := Lib.hid (fun nq => show Calls Tryz.prog 48 #[vf] (w.drewN nq) fun e w' => e = .returned (.tuple #[.agg hwZ.cs, .bool false]) ∧ Below (w.drewN nq).heap.size (w.drewN nq) w' by
    have h := readHead_w (w.drewN nq) ka C (hL.drewN nq).a hlen
    rw [hx, ← hvf] at h
    exact h)
  have HL := Lib.hid hL
  have HV := Lib.hid hvf
  clear hL hvf
  go_enter Tryz.func29, Tryz.ntmps29
  go_upto_region 1 with fail
  go_quiet (fail)
  go_wp2_with fail
  refine (HRA.out _).mono ?_
  rintro e w2 ⟨rfl, hb2⟩
  have hb2 := (below_drewN (Below.refl w.heap.size w) _).trans hb2
  obtain ⟨w3, st3, hg3, hb3⟩ := put_hd w2 hwZ.cs rfl (by simp [Value.oneCell'])
  have HB3 := Lib.hid (hb2.trans (hb3.mono hb2.size))
  clear c0 c1 HRA
  clear hb2 hb3 hg3
  go_wp2_with fail
  go_ret
  exact ⟨rfl, HL.out.below HB3.out, Only.of_below HB3.out⟩
set_option maxRecDepth 100000 in
set_option maxHeartbeats 4000000 in
theorem copy_tns (w : World) (lb : Nat) (ka kb : Bk) (F : Mm) (x : Hw) (hx : hdC (some F) = some x) (_hxn : x.n ≤ F.secs.length) (hL : LgAt w lb ka kb (some F) none) (hlen : ∀ M, (some F) = some M → 0 < M.secs.length) :
    Calls Tryz.prog 29 #[.pointer (some ⟨lb, 0, none⟩), .bool true] w fun e w' => e = .returned (.int .i64 9) ∧ LgAt w' lb ka kb (some F) none ∧ Only (fS ka kb (some F) none) w w' := by
  obtain ⟨vf, hvf⟩ : ∃ vf, vf = ifC ka (some F) := ⟨_, rfl⟩
  have c1 : w.cell? ⟨lb, 1, none⟩ = some (.nilIface) := cell_at hL.row rfl
  have c0 : w.cell? ⟨lb, 0, none⟩ = some vf := by rw [hvf]; exact cell_at hL.row rfl
  have HRA := Lib.hid (fun nq => show Calls Tryz.prog 48 #[vf] (w.drewN nq) fun e w' => e = .returned (.tuple #[.agg x.cs, .bool true]) ∧ Below (w.drewN nq).heap.size (w.drewN nq) w' by
    have h := readHead_w (w.drewN nq) ka (some F) (hL.drewN nq).a hlen
    rw [hx, ← hvf] at h
    exact h)
  have HL := Lib.hid hL
  have HV := Lib.hid hvf
  clear hL hvf
  go_enter Tryz.func29, Tryz.ntmps29
  go_upto_region 1 with fail
  go_quiet (fail)
  go_wp2_with fail
  refine (HRA.out _).mono ?_
  rintro e w2 ⟨rfl, hb2⟩
  have hb2 := (below_drewN (Below.refl w.heap.size w) _).trans hb2
  obtain ⟨w3, st3, hg3, hb3⟩ := put_hd w2 x.cs rfl (by simp [Value.oneCell'])
  have HB3 := Lib.hid (hb2.trans (hb3.mono hb2.size))
  clear c0 c1 HRA
  clear hb2 hb3 hg3
  go_wp2_with fail
  go_ret
  exact ⟨rfl, HL.out.below HB3.out, Only.of_below HB3.out⟩
set_option maxRecDepth 100000 in
set_option maxHeartbeats 4000000 in
theorem copy_tsn (w : World) (lb : Nat) (ka kb : Bk) (T : Mm) (C : Cp) (hx : hdC C = none) (hL : LgAt w lb ka kb C (some T)) (hlen : ∀ M, C = some M → 0 < M.secs.length) :
    Calls Tryz.prog 29 #[.pointer (some ⟨lb, 0, none⟩), .bool true] w fun e w' => e = .returned (.int .i64 9) ∧ LgAt w' lb ka kb C (some T) ∧ Only (fS ka kb C (some T)) w w' := by
  obtain ⟨vf, hvf⟩ : ∃ vf, vf = ifC ka C := ⟨_, rfl⟩
  have c1 : w.cell? ⟨lb, 1, none⟩ = some (.iface 25 (memV kb.p)) := cell_at hL.row rfl
  have c0 : w.cell? ⟨lb, 0, none⟩ = some vf := by rw [hvf]; exact cell_at hL.row rfl
  have HRA := Lib.hid (fun nq => show Calls Tryz.prog 48 #[vf] (w.drewN nq) fun e w' => e = .returned (.tuple #[.agg hwZ.cs, .bool false]) ∧ Below (w.drewN nq).heap.size (w.drewN nq) w' by
    have h := readHead_w (w.drewN nq) ka C (hL.drewN nq).a hlen
    rw [hx, ← hvf] at h
    exact h)
  have HL := Lib.hid hL
  have HV := Lib.hid hvf
  clear hL hvf
  go_enter Tryz.func29, Tryz.ntmps29
  go_upto_region 1 with fail
  go_quiet (fail)
  go_wp2_with fail
  refine (HRA.out _).mono ?_
  rintro e w2 ⟨rfl, hb2⟩
  have hb2 := (below_drewN (Below.refl w.heap.size w) _).trans hb2
  obtain ⟨w3, st3, hg3, hb3⟩ := put_hd w2 hwZ.cs rfl (by simp [Value.oneCell'])
  have HB3 := Lib.hid (hb2.trans (hb3.mono hb2.size))
  clear c0 c1 HRA
  clear hb2 hb3 hg3
  go_wp2_with fail
  go_ret
  exact ⟨rfl, HL.out.below HB3.out, Only.of_below HB3.out⟩
set_option maxRecDepth 100000 in
set_option maxHeartbeats 4000000 in
theorem copy_tss (w : World) (lb : Nat) (ka kb : Bk) (T : Mm) (F : Mm) (x : Hw) (hx : hdC (some F) = some x) (hxn : x.n ≤ F.secs.length) (hL : LgAt w lb ka kb (some F) (some T)) (hlen : ∀ M, (some F) = some M → 0 < M.secs.length) :
    Calls Tryz.prog 29 #[.pointer (some ⟨lb, 0, none⟩), .bool true] w fun e w' => e = .returned (.int .i64 ((dupV T F x).1)) ∧ LgAt w' lb ka kb (some F) (some (dupV T F x).2) ∧ Only (fS ka kb (some F) (some T)) w w' := by
  obtain ⟨vf, hvf⟩ : ∃ vf, vf = ifC ka (some F) := ⟨_, rfl⟩
  have c1 : w.cell? ⟨lb, 1, none⟩ = some (.iface 25 (memV kb.p)) := cell_at hL.row rfl
  have c0 : w.cell? ⟨lb, 0, none⟩ = some vf := by rw [hvf]; exact cell_at hL.row rfl
  have HRA := Lib.hid (fun nq => show Calls Tryz.prog 48 #[vf] (w.drewN nq) fun e w' => e = .returned (.tuple #[.agg x.cs, .bool true]) ∧ Below (w.drewN nq).heap.size (w.drewN nq) w' by
    have h := readHead_w (w.drewN nq) ka (some F) (hL.drewN nq).a hlen
    rw [hx, ← hvf] at h
    exact h)
  have HL := Lib.hid hL
  have HV := Lib.hid hvf
  clear hL hvf
  go_enter Tryz.func29, Tryz.ntmps29
  go_upto_region 1 with fail
  go_quiet (fail)
  go_wp2_with fail
  refine (HRA.out _).mono ?_
  rintro e w2 ⟨rfl, hb2⟩
  have hb2 := (below_drewN (Below.refl w.heap.size w) _).trans hb2
  obtain ⟨w3, st3, hg3, hb3⟩ := put_hd w2 x.cs rfl (by simp [Value.oneCell'])
  have HB3 := Lib.hid (hb2.trans (hb3.mono hb2.size))
  clear c0 c1 HRA
  have HL3 := Lib.hid (HL.out.below HB3.out)
  have HD := Lib.hid (show Calls Tryz.prog 57 #[.iface 25 (memV kb.p), vf, .agg x.cs] w3 fun e w' => e = .returned (.int .i64 (dupV T F x).1) ∧ MmAt w' kb (dupV T F x).2 ∧ Only kb.s w3 w' by
    rw [HV.out]
    exact dup_w w3 kb ka T F x (hdC_ok hx) (HL3.out.b T rfl) (HL3.out.a F rfl) (fun y hy hz => HL.out.dis y hz hy) hxn)
  have ld3 := loadHd_at hg3 rfl
  clear hb2 hb3 hg3
  go_wp2_with fail
  refine HD.out.mono ?_
  rintro e w4 ⟨rfl, hT4, ho4⟩
  have hoo : Only (fS ka kb (some F) (some T)) w3 w4 := ho4.mono (fun k hk _ => List.mem_append.2 (Or.inr hk))
  have HF4 := Lib.hid (show LgAt w4 lb ka kb (some F) (some (dupV T F x).2) ∧ Only (fS ka kb (some F) (some T)) w w4 from
    ⟨HL3.out.upd hoo (HL3.out.a.only ho4 (fun y hy hz => HL.out.dis y hy hz)) (fun M e => by cases e; exact hT4) rfl rfl, (Only.of_below HB3.out).trans hoo⟩)
  clear hT4 ho4 hoo ld3
  go_wp2_with fail
  go_ret
  exact ⟨rfl, HF4.out⟩
theorem copy_w (w : World) (lb : Nat) (ka kb : Bk) (A B : Cp) (s : Bool) (hL : LgAt w lb ka kb A B) (H : BgH A B) : Calls Tryz.prog 29 #[.pointer (some ⟨lb, 0, none⟩), .bool s] w fun e w' =>
    e = .returned (.int .i64 (copyV A B s).1) ∧ LgAt w' lb ka kb (copyV A B s).2.1 (copyV A B s).2.2 ∧ Only (fS ka kb A B) w w' := by
  have hz : hdC none = none := rfl
  cases s with
  | false =>
    have hlen : ∀ M, B = some M → 0 < M.secs.length := fun M e => by have := H.hb M e; omega
    cases hh : hdC B with
    | none =>
      have e := cpyV_none A B (Or.inr hh)
      simp only [copyV, e, Bool.false_eq_true, if_false]
      cases A with
      | none => exact copy_fnn w lb ka kb B hh hL hlen
      | some T => exact copy_fsn w lb ka kb T B hh hL hlen
    | some x =>
      cases B with
      | none => rw [hz] at hh; cases hh
      | some F =>
        have hxn := H.hy F x rfl hh
        cases A with
        | none =>
          have e := cpyV_none none (some F) (Or.inl rfl)
          simp only [copyV, e, Bool.false_eq_true, if_false]
          exact copy_fns w lb ka kb F x hh hxn hL hlen
        | some T =>
          have e : cpyV (some T) (some F) = ((dupV T F x).1, some (dupV T F x).2) := by unfold cpyV; rw [hh]
          simp only [copyV, e, Bool.false_eq_true, if_false]
          exact copy_fss w lb ka kb T F x hh hxn hL hlen
  | true =>
    have hlen : ∀ M, A = some M → 0 < M.secs.length := fun M e => by have := H.ha M e; omega
    cases hh : hdC A with
    | none =>
      have e := cpyV_none B A (Or.inr hh)
      simp only [copyV, e, if_true]
      cases B with
      | none => exact copy_tnn w lb ka kb A hh hL hlen
      | some T => exact copy_tsn w lb ka kb T A hh hL hlen
    | some x =>
      cases A with
      | none => rw [hz] at hh; cases hh
      | some F =>
        have hxn := H.hx F x rfl hh
        cases B with
        | none =>
          have e := cpyV_none none (some F) (Or.inl rfl)
          simp only [copyV, e, if_true]
          exact copy_tns w lb ka kb F x hh hxn hL hlen
        | some T =>
          have e : cpyV (some T) (some F) = ((dupV T F x).1, some (dupV T F x).2) := by unfold cpyV; rw [hh]
          simp only [copyV, e, if_true]
          exact copy_tss w lb ka kb T F x hh hxn hL hlen
end
end

section
open Go.RowKit Go.Sort

def szV (s : Nat) : Cp → Option Nat
  | none => some s
  | some M => if 16 ≤ M.secs.length ∧ M.secs.length ≤ 4096 then some (min s M.secs.length) else none
def freshH (n : Nat) : Hw := ⟨n, 1, 1, 1, 0⟩
def formV (A B : Cp) : Int × Cp × Cp := if A.isNone ∧ B.isNone then (1, A, B) else match (szV 4097 A).bind (fun s => szV s B) with
  | none => (2, A, B)
  | some n => headsV A B (freshH n)
theorem szV_of {s n : Nat} {c : Cp} (h : szV s c = some n) : n ≤ s ∧ (∀ M, c = some M → 16 ≤ M.secs.length ∧ n ≤ 4096 ∧ n ≤ M.secs.length) ∧ (16 ≤ s → 16 ≤ n) := by
  cases c with
  | none => cases h; exact ⟨Nat.le_refl _, fun M e => (by cases e), id⟩
  | some M =>
    simp only [szV] at h
    by_cases hb : 16 ≤ M.secs.length ∧ M.secs.length ≤ 4096
    · rw [if_pos hb, Option.some.injEq] at h
      exact ⟨by omega, fun N e => (by cases e; omega), fun _ => by omega⟩
    · rw [if_neg hb] at h
      cases h
/-- Where the loop over the copies stands. -/
structure FmSt (w : World) (A B : Cp) (va vb : Value) (j n : Nat) (W : World) : Prop where
  bel : Below w.heap.size w W
  c0 : W.cell? ⟨w.heap.size, 0, none⟩ = some va
  c1 : W.cell? ⟨w.heap.size, 1, none⟩ = some vb
  z0 : j = 0 → n = 4097
  z1 : j = 1 → szV 4097 A = some n
  z2 : j = 2 → (szV 4097 A).bind (fun s => szV s B) = some n
  le : 16 ≤ n ∧ n ≤ 4097
theorem freshH_ok {n : Nat} (h1 : 16 ≤ n) (h2 : n ≤ 4096) : HwOk (freshH n) := ⟨⟨h1, h2⟩, by simp [freshH], by simp [freshH], ⟨by simp [freshH], by show 1 < n; omega⟩, by simp [freshH]⟩
section
attribute [local go_sem ↓] loadHd_down storeHd_down
set_option maxRecDepth 100000 in
set_option maxHeartbeats 8000000 in
theorem form_sn (w : World) (ka kb : Bk) (M : Mm) (hSa : ∀ W, Below w.heap.size w W → Calls Tryz.prog 302 #[memV ka.p] W fun e w' => e = .returned (.tuple #[.int .i64 M.secs.length, .int .i64 0]) ∧ W = w') (hMl : M.secs.length ≤ 1000000) (hS : ∀ n, (szV 4097 (some M)).bind (fun s => szV s none) = some n → StAt w ka kb (some M) none) :
    Calls Tryz.prog 25 #[.iface 25 (memV ka.p), .nilIface] w fun e w' => e = .returned (.int .i64 (formV (some M) none).1) ∧ ((formV (some M) none).1 ≠ 2 → StAt w' ka kb (formV (some M) none).2.1 (formV (some M) none).2.2) ∧ Only (fS ka kb (some M) none) w w' := by
  have HS := Lib.hid hS
  have HF2 := Lib.hid (show (szV 4097 (some M)).bind (fun s => szV s none) = none → formV (some M) none = (2, (some M), none) from fun h => by unfold formV; rw [if_neg (by simp), h])
  have HF0 := Lib.hid (show ∀ n, (szV 4097 (some M)).bind (fun s => szV s none) = some n → formV (some M) none = headsV (some M) none (freshH n) from fun n h => by unfold formV; rw [if_neg (by simp), h])
  have HSa := Lib.hid hSa
  clear hS hSa 
  generalize formV (some M) none = R at HF2 HF0 ⊢
  go_enter Tryz.func25, Tryz.ntmps25
  go_wp2_with fail
  go_loopw [21, 5] (fun i s wr => ∃ j n : Nat, j ≤ 2 ∧ i = .int .i64 j ∧ s = .int .i64 n ∧ FmSt w (some M) none (.iface 25 (memV ka.p)) (.nilIface) j n wr) (fun i _ _ => 3 - (intOf i).toNat)
  case atStart => exact ⟨0, 4097, by omega, rfl, rfl, box_below0 _ _ _, cell_at (heap_alloc_new _ _) rfl, cell_at (heap_alloc_new _ _) rfl, fun _ => rfl, fun h => by omega, fun h => by omega, by omega, by omega⟩
  case round =>
    obtain ⟨j, n, hj, rfl, rfl, hs⟩ := hrel
    rcases (show j = 0 ∨ j = 1 ∨ j = 2 by omega) with rfl | rfl | rfl
    · have HC := Lib.hid (HSa.out wr hs.bel)
      have HZ := Lib.hid (show n = 4097 from hs.z0 rfl)
      have hle := hs.le
      have cc := hs.c0
      have HSt := Lib.hid hs
      clear hs
      go_wp2_with fail
      refine HC.out.mono ?_
      rintro e w2 ⟨rfl, rfl⟩
      by_cases hb : 16 ≤ M.secs.length ∧ M.secs.length ≤ 4096
      · have HN := Lib.hid (show FmSt w (some M) none (.iface 25 (memV ka.p)) (.nilIface) 1 (min n M.secs.length) wr from ⟨HSt.out.bel, HSt.out.c0, HSt.out.c1, fun h => by omega, fun _ => by rw [show n = 4097 from HZ.out]; simp only [szV]; rw [if_pos hb], fun h => by omega, by omega, by omega⟩)
        have l1 : ¬ ((M.secs.length : Int) < 16) := by omega
        have l2 : ¬ ((4096 : Int) < (M.secs.length : Int)) := by omega
        clear cc
        go_wp2_with fail
        go_roundw
        case rel => exact ⟨1, _, by omega, by simp, by simp; first | omega | exact (Int.natCast_min _ _).symm, HN.out⟩
        case measure => simp [intOf]
      · have hbad : R = (2, (some M), none) := HF2.out (by rw [show szV 4097 (some M) = none from if_neg hb]; rfl)
        have HB := Lib.hid hbad
        have HO := Lib.hid (Only.of_below (S := fS ka kb (some M) none) HSt.out.bel)
        clear hbad cc
        by_cases l1 : ((M.secs.length : Int) < 16)
        · clear hb
          go_wp2_with fail
          go_ret
          exact ⟨by rw [HB.out]; rfl, fun h => absurd (by rw [HB.out]) h, HO.out⟩
        · have l2 : ((4096 : Int) < (M.secs.length : Int)) := by omega
          clear hb
          go_wp2_with fail
          go_ret
          exact ⟨by rw [HB.out]; rfl, fun h => absurd (by rw [HB.out]) h, HO.out⟩
    · have HN := Lib.hid (show FmSt w (some M) none (.iface 25 (memV ka.p)) (.nilIface) 2 n wr from ⟨hs.bel, hs.c0, hs.c1, fun h => by omega, fun h => by omega, fun _ => by rw [hs.z1 rfl]; rfl, hs.le⟩)
      have cc := hs.c1
      clear hs
      go_wp2_with fail
      go_roundw
      case rel => exact ⟨2, n, by omega, by simp, rfl, HN.out⟩
      case measure => simp [intOf]
    · have hz := hs.z2 rfl
      obtain ⟨s1, hz1, hz2⟩ := Option.bind_eq_some_iff.1 hz
      have H2 := szV_of hz1
      have H3 := szV_of hz2
      have hn4 : n ≤ 4096 := by have := H2.2.1 M rfl; omega
      have hst := HS.out n hz
      have HR := Lib.hid (HF0.out n hz)
      obtain ⟨w4, hw4⟩ : ∃ w4, w4 = wr.alloc (.cells #[.iface 25 (memV ka.p), .nilIface] 103) := ⟨_, rfl⟩
      have hg4 : w4.heap[wr.heap.size]? = some (.cells #[.iface 25 (memV ka.p), .nilIface] 103 (0, 0)) := by rw [hw4]; exact heap_alloc_new _ _
      have hb4 : Below wr.heap.size wr w4 := by rw [hw4]; exact box_below0 _ _ _
      have hst4 : StAt wr ka kb (some M) none := ⟨hst.a.below hs.bel, hst.b.below hs.bel, hst.dis, fun x hx => Nat.lt_of_lt_of_le (hst.lt x hx) hs.bel.size⟩
      have HHd := Lib.hid (show Calls Tryz.prog 47 #[.pointer (some ⟨wr.heap.size, 0, none⟩), .agg #[.int .i64 (n : Nat), .int .i64 1, .int .i64 1, .int .i64 1, .int .i64 0]] w4 _ from heads_w w4 wr.heap.size ka kb (some M) none (freshH n) (freshH_ok hs.le.1 hn4) (hst4.lg hb4 hg4))
      have HW4 := Lib.hid hw4
      have HO := Lib.hid (Only.of_below (S := fS ka kb (some M) none) (hs.bel.trans (hb4.mono hs.bel.size)))
      clear hz hz1 hz2 H2 H3 hst hw4 hg4 hb4 hst4 hs
      go_wp2_with fail
      rw [← HW4.out]
      refine HHd.out.mono ?_
      rintro e w5 ⟨rfl, hL5, ho5⟩
      have HL5 := Lib.hid hL5.st
      have HO5 := Lib.hid (HO.out.trans ho5)
      clear hL5 ho5
      go_wp2_with fail
      go_ret
      exact ⟨by rw [HR.out]; rfl, fun _ => by rw [HR.out]; exact HL5.out, HO5.out⟩
set_option maxRecDepth 100000 in
set_option maxHeartbeats 8000000 in
theorem form_ns (w : World) (ka kb : Bk) (N : Mm) (hSb : ∀ W, Below w.heap.size w W → Calls Tryz.prog 302 #[memV kb.p] W fun e w' => e = .returned (.tuple #[.int .i64 N.secs.length, .int .i64 0]) ∧ W = w') (hNl : N.secs.length ≤ 1000000) (hS : ∀ n, (szV 4097 none).bind (fun s => szV s (some N)) = some n → StAt w ka kb none (some N)) :
    Calls Tryz.prog 25 #[.nilIface, .iface 25 (memV kb.p)] w fun e w' => e = .returned (.int .i64 (formV none (some N)).1) ∧ ((formV none (some N)).1 ≠ 2 → StAt w' ka kb (formV none (some N)).2.1 (formV none (some N)).2.2) ∧ Only (fS ka kb none (some N)) w w' := by
  have HS := Lib.hid hS
  have HF2 := Lib.hid (show (szV 4097 none).bind (fun s => szV s (some N)) = none → formV none (some N) = (2, none, (some N)) from fun h => by unfold formV; rw [if_neg (by simp), h])
  have HF0 := Lib.hid (show ∀ n, (szV 4097 none).bind (fun s => szV s (some N)) = some n → formV none (some N) = headsV none (some N) (freshH n) from fun n h => by unfold formV; rw [if_neg (by simp), h])
  have HSb := Lib.hid hSb
  clear hS hSb
  generalize formV none (some N) = R at HF2 HF0 ⊢
  go_enter Tryz.func25, Tryz.ntmps25
  go_wp2_with fail
  go_loopw [21, 5] (fun i s wr => ∃ j n : Nat, j ≤ 2 ∧ i = .int .i64 j ∧ s = .int .i64 n ∧ FmSt w none (some N) (.nilIface) (.iface 25 (memV kb.p)) j n wr) (fun i _ _ => 3 - (intOf i).toNat)
  case atStart => exact ⟨0, 4097, by omega, rfl, rfl, box_below0 _ _ _, cell_at (heap_alloc_new _ _) rfl, cell_at (heap_alloc_new _ _) rfl, fun _ => rfl, fun h => by omega, fun h => by omega, by omega, by omega⟩
  case round =>
    obtain ⟨j, n, hj, rfl, rfl, hs⟩ := hrel
    rcases (show j = 0 ∨ j = 1 ∨ j = 2 by omega) with rfl | rfl | rfl
    · have HN := Lib.hid (show FmSt w none (some N) (.nilIface) (.iface 25 (memV kb.p)) 1 n wr from ⟨hs.bel, hs.c0, hs.c1, fun h => by omega, fun _ => by rw [hs.z0 rfl]; rfl, fun h => by omega, hs.le⟩)
      have cc := hs.c0
      clear hs
      go_wp2_with fail
      go_roundw
      case rel => exact ⟨1, n, by omega, by simp, rfl, HN.out⟩
      case measure => simp [intOf]
    · have HC := Lib.hid (HSb.out wr hs.bel)
      have HZ := Lib.hid (show szV 4097 none = some n from hs.z1 rfl)
      have hle := hs.le
      have cc := hs.c1
      have HSt := Lib.hid hs
      clear hs
      go_wp2_with fail
      refine HC.out.mono ?_
      rintro e w2 ⟨rfl, rfl⟩
      by_cases hb : 16 ≤ N.secs.length ∧ N.secs.length ≤ 4096
      · have HN := Lib.hid (show FmSt w none (some N) (.nilIface) (.iface 25 (memV kb.p)) 2 (min n N.secs.length) wr from ⟨HSt.out.bel, HSt.out.c0, HSt.out.c1, fun h => by omega, fun h => by omega, fun _ => by rw [HZ.out]; simp only [Option.bind_some, szV]; rw [if_pos hb], by omega, by omega⟩)
        have l1 : ¬ ((N.secs.length : Int) < 16) := by omega
        have l2 : ¬ ((4096 : Int) < (N.secs.length : Int)) := by omega
        clear cc
        go_wp2_with fail
        go_roundw
        case rel => exact ⟨2, _, by omega, by simp, by simp; first | omega | exact (Int.natCast_min _ _).symm, HN.out⟩
        case measure => simp [intOf]
      · have hbad : R = (2, none, (some N)) := HF2.out (by rw [HZ.out]; simp only [Option.bind_some]; exact if_neg hb)
        have HB := Lib.hid hbad
        have HO := Lib.hid (Only.of_below (S := fS ka kb none (some N)) HSt.out.bel)
        clear hbad cc
        by_cases l1 : ((N.secs.length : Int) < 16)
        · clear hb
          go_wp2_with fail
          go_ret
          exact ⟨by rw [HB.out]; rfl, fun h => absurd (by rw [HB.out]) h, HO.out⟩
        · have l2 : ((4096 : Int) < (N.secs.length : Int)) := by omega
          clear hb
          go_wp2_with fail
          go_ret
          exact ⟨by rw [HB.out]; rfl, fun h => absurd (by rw [HB.out]) h, HO.out⟩
    · have hz := hs.z2 rfl
      obtain ⟨s1, hz1, hz2⟩ := Option.bind_eq_some_iff.1 hz
      have H2 := szV_of hz1
      have H3 := szV_of hz2
      have hn4 : n ≤ 4096 := by have := H3.2.1 N rfl; omega
      have hst := HS.out n hz
      have HR := Lib.hid (HF0.out n hz)
      obtain ⟨w4, hw4⟩ : ∃ w4, w4 = wr.alloc (.cells #[.nilIface, .iface 25 (memV kb.p)] 103) := ⟨_, rfl⟩
      have hg4 : w4.heap[wr.heap.size]? = some (.cells #[.nilIface, .iface 25 (memV kb.p)] 103 (0, 0)) := by rw [hw4]; exact heap_alloc_new _ _
      have hb4 : Below wr.heap.size wr w4 := by rw [hw4]; exact box_below0 _ _ _
      have hst4 : StAt wr ka kb none (some N) := ⟨hst.a.below hs.bel, hst.b.below hs.bel, hst.dis, fun x hx => Nat.lt_of_lt_of_le (hst.lt x hx) hs.bel.size⟩
      have HHd := Lib.hid (show Calls Tryz.prog 47 #[.pointer (some ⟨wr.heap.size, 0, none⟩), .agg #[.int .i64 (n : Nat), .int .i64 1, .int .i64 1, .int .i64 1, .int .i64 0]] w4 _ from heads_w w4 wr.heap.size ka kb none (some N) (freshH n) (freshH_ok hs.le.1 hn4) (hst4.lg hb4 hg4))
      have HW4 := Lib.hid hw4
      have HO := Lib.hid (Only.of_below (S := fS ka kb none (some N)) (hs.bel.trans (hb4.mono hs.bel.size)))
      clear hz hz1 hz2 H2 H3 hst hw4 hg4 hb4 hst4 hs
      go_wp2_with fail
      rw [← HW4.out]
      refine HHd.out.mono ?_
      rintro e w5 ⟨rfl, hL5, ho5⟩
      have HL5 := Lib.hid hL5.st
      have HO5 := Lib.hid (HO.out.trans ho5)
      clear hL5 ho5
      go_wp2_with fail
      go_ret
      exact ⟨by rw [HR.out]; rfl, fun _ => by rw [HR.out]; exact HL5.out, HO5.out⟩
set_option maxRecDepth 100000 in
set_option maxHeartbeats 8000000 in
theorem form_ss (w : World) (ka kb : Bk) (M : Mm) (N : Mm) (hSa : ∀ W, Below w.heap.size w W → Calls Tryz.prog 302 #[memV ka.p] W fun e w' => e = .returned (.tuple #[.int .i64 M.secs.length, .int .i64 0]) ∧ W = w') (hMl : M.secs.length ≤ 1000000) (hSb : ∀ W, Below w.heap.size w W → Calls Tryz.prog 302 #[memV kb.p] W fun e w' => e = .returned (.tuple #[.int .i64 N.secs.length, .int .i64 0]) ∧ W = w') (hNl : N.secs.length ≤ 1000000) (hS : ∀ n, (szV 4097 (some M)).bind (fun s => szV s (some N)) = some n → StAt w ka kb (some M) (some N)) :
    Calls Tryz.prog 25 #[.iface 25 (memV ka.p), .iface 25 (memV kb.p)] w fun e w' => e = .returned (.int .i64 (formV (some M) (some N)).1) ∧ ((formV (some M) (some N)).1 ≠ 2 → StAt w' ka kb (formV (some M) (some N)).2.1 (formV (some M) (some N)).2.2) ∧ Only (fS ka kb (some M) (some N)) w w' := by
  have HS := Lib.hid hS
  have HF2 := Lib.hid (show (szV 4097 (some M)).bind (fun s => szV s (some N)) = none → formV (some M) (some N) = (2, (some M), (some N)) from fun h => by unfold formV; rw [if_neg (by simp), h])
  have HF0 := Lib.hid (show ∀ n, (szV 4097 (some M)).bind (fun s => szV s (some N)) = some n → formV (some M) (some N) = headsV (some M) (some N) (freshH n) from fun n h => by unfold formV; rw [if_neg (by simp), h])
  have HSa := Lib.hid hSa
  have HSb := Lib.hid hSb
  clear hS hSa hSb
  generalize formV (some M) (some N) = R at HF2 HF0 ⊢
  go_enter Tryz.func25, Tryz.ntmps25
  go_wp2_with fail
  go_loopw [21, 5] (fun i s wr => ∃ j n : Nat, j ≤ 2 ∧ i = .int .i64 j ∧ s = .int .i64 n ∧ FmSt w (some M) (some N) (.iface 25 (memV ka.p)) (.iface 25 (memV kb.p)) j n wr) (fun i _ _ => 3 - (intOf i).toNat)
  case atStart => exact ⟨0, 4097, by omega, rfl, rfl, box_below0 _ _ _, cell_at (heap_alloc_new _ _) rfl, cell_at (heap_alloc_new _ _) rfl, fun _ => rfl, fun h => by omega, fun h => by omega, by omega, by omega⟩
  case round =>
    obtain ⟨j, n, hj, rfl, rfl, hs⟩ := hrel
    rcases (show j = 0 ∨ j = 1 ∨ j = 2 by omega) with rfl | rfl | rfl
    · have HC := Lib.hid (HSa.out wr hs.bel)
      have HZ := Lib.hid (show n = 4097 from hs.z0 rfl)
      have hle := hs.le
      have cc := hs.c0
      have HSt := Lib.hid hs
      clear hs
      go_wp2_with fail
      refine HC.out.mono ?_
      rintro e w2 ⟨rfl, rfl⟩
      by_cases hb : 16 ≤ M.secs.length ∧ M.secs.length ≤ 4096
      · have HN := Lib.hid (show FmSt w (some M) (some N) (.iface 25 (memV ka.p)) (.iface 25 (memV kb.p)) 1 (min n M.secs.length) wr from ⟨HSt.out.bel, HSt.out.c0, HSt.out.c1, fun h => by omega, fun _ => by rw [show n = 4097 from HZ.out]; simp only [szV]; rw [if_pos hb], fun h => by omega, by omega, by omega⟩)
        have l1 : ¬ ((M.secs.length : Int) < 16) := by omega
        have l2 : ¬ ((4096 : Int) < (M.secs.length : Int)) := by omega
        clear cc
        go_wp2_with fail
        go_roundw
        case rel => exact ⟨1, _, by omega, by simp, by simp; first | omega | exact (Int.natCast_min _ _).symm, HN.out⟩
        case measure => simp [intOf]
      · have hbad : R = (2, (some M), (some N)) := HF2.out (by rw [show szV 4097 (some M) = none from if_neg hb]; rfl)
        have HB := Lib.hid hbad
        have HO := Lib.hid (Only.of_below (S := fS ka kb (some M) (some N)) HSt.out.bel)
        clear hbad cc
        by_cases l1 : ((M.secs.length : Int) < 16)
        · clear hb
          go_wp2_with fail
          go_ret
          exact ⟨by rw [HB.out]; rfl, fun h => absurd (by rw [HB.out]) h, HO.out⟩
        · have l2 : ((4096 : Int) < (M.secs.length : Int)) := by omega
          clear hb
          go_wp2_with fail
          go_ret
          exact ⟨by rw [HB.out]; rfl, fun h => absurd (by rw [HB.out]) h, HO.out⟩
    · have HC := Lib.hid (HSb.out wr hs.bel)
      have HZ := Lib.hid (show szV 4097 (some M) = some n from hs.z1 rfl)
      have hle := hs.le
      have cc := hs.c1
      have HSt := Lib.hid hs
      clear hs
      go_wp2_with fail
      refine HC.out.mono ?_
      rintro e w2 ⟨rfl, rfl⟩
      by_cases hb : 16 ≤ N.secs.length ∧ N.secs.length ≤ 4096
      · have HN := Lib.hid (show FmSt w (some M) (some N) (.iface 25 (memV ka.p)) (.iface 25 (memV kb.p)) 2 (min n N.secs.length) wr from ⟨HSt.out.bel, HSt.out.c0, HSt.out.c1, fun h => by omega, fun h => by omega, fun _ => by rw [HZ.out]; simp only [Option.bind_some, szV]; rw [if_pos hb], by omega, by omega⟩)
        have l1 : ¬ ((N.secs.length : Int) < 16) := by omega
        have l2 : ¬ ((4096 : Int) < (N.secs.length : Int)) := by omega
        clear cc
        go_wp2_with fail
        go_roundw
        case rel => exact ⟨2, _, by omega, by simp, by simp; first | omega | exact (Int.natCast_min _ _).symm, HN.out⟩
        case measure => simp [intOf]
      · have hbad : R = (2, (some M), (some N)) := HF2.out (by rw [HZ.out]; simp only [Option.bind_some]; exact if_neg hb)
        have HB := Lib.hid hbad
        have HO := Lib.hid (Only.of_below (S := fS ka kb (some M) (some N)) HSt.out.bel)
        clear hbad cc
        by_cases l1 : ((N.secs.length : Int) < 16)
        · clear hb
          go_wp2_with fail
          go_ret
          exact ⟨by rw [HB.out]; rfl, fun h => absurd (by rw [HB.out]) h, HO.out⟩
        · have l2 : ((4096 : Int) < (N.secs.length : Int)) := by omega
          clear hb
          go_wp2_with fail
          go_ret
          exact ⟨by rw [HB.out]; rfl, fun h => absurd (by rw [HB.out]) h, HO.out⟩
    · have hz := hs.z2 rfl
      obtain ⟨s1, hz1, hz2⟩ := Option.bind_eq_some_iff.1 hz
      have H2 := szV_of hz1
      have H3 := szV_of hz2
      have hn4 : n ≤ 4096 := by have := H2.2.1 M rfl; omega
      have hst := HS.out n hz
      have HR := Lib.hid (HF0.out n hz)
      obtain ⟨w4, hw4⟩ : ∃ w4, w4 = wr.alloc (.cells #[.iface 25 (memV ka.p), .iface 25 (memV kb.p)] 103) := ⟨_, rfl⟩
      have hg4 : w4.heap[wr.heap.size]? = some (.cells #[.iface 25 (memV ka.p), .iface 25 (memV kb.p)] 103 (0, 0)) := by rw [hw4]; exact heap_alloc_new _ _
      have hb4 : Below wr.heap.size wr w4 := by rw [hw4]; exact box_below0 _ _ _
      have hst4 : StAt wr ka kb (some M) (some N) := ⟨hst.a.below hs.bel, hst.b.below hs.bel, hst.dis, fun x hx => Nat.lt_of_lt_of_le (hst.lt x hx) hs.bel.size⟩
      have HHd := Lib.hid (show Calls Tryz.prog 47 #[.pointer (some ⟨wr.heap.size, 0, none⟩), .agg #[.int .i64 (n : Nat), .int .i64 1, .int .i64 1, .int .i64 1, .int .i64 0]] w4 _ from heads_w w4 wr.heap.size ka kb (some M) (some N) (freshH n) (freshH_ok hs.le.1 hn4) (hst4.lg hb4 hg4))
      have HW4 := Lib.hid hw4
      have HO := Lib.hid (Only.of_below (S := fS ka kb (some M) (some N)) (hs.bel.trans (hb4.mono hs.bel.size)))
      clear hz hz1 hz2 H2 H3 hst hw4 hg4 hb4 hst4 hs
      go_wp2_with fail
      rw [← HW4.out]
      refine HHd.out.mono ?_
      rintro e w5 ⟨rfl, hL5, ho5⟩
      have HL5 := Lib.hid hL5.st
      have HO5 := Lib.hid (HO.out.trans ho5)
      clear hL5 ho5
      go_wp2_with fail
      go_ret
      exact ⟨by rw [HR.out]; rfl, fun _ => by rw [HR.out]; exact HL5.out, HO5.out⟩
set_option maxRecDepth 100000 in
theorem form_nn (w : World) : Calls Tryz.prog 25 #[.nilIface, .nilIface] w fun e w' => e = .returned (.int .i64 1) ∧ w = w' := by
  go_enter Tryz.func25, Tryz.ntmps25
  go_wp2_with fail
  go_ret
  exact ⟨rfl, rfl⟩
end
end

section
open Go.RowKit Go.Sort

/-- What an iterator of pieces holds. -/
structure PcsAt (bs bn sb : Nat) (number : Nat) (s : By) (W : World) : Prop where
  cs : W.cell? ⟨bs, 0, none⟩ = some (.string ⟨s.toArray⟩)
  cn : W.cell? ⟨bn, 0, none⟩ = some (.int .i64 number)
  cu : W.cell? ⟨sb, 0, none⟩ = some (.int .u64 (sumN s))
  lt : bs < W.heap.size ∧ bn < W.heap.size ∧ sb < W.heap.size
theorem PcsAt.below {bs bn sb number : Nat} {s : By} {W W' : World} (h : PcsAt bs bn sb number s W) (hb : Below W.heap.size W W') : PcsAt bs bn sb number s W' :=
  ⟨(hb.cell (p := ⟨bs, 0, none⟩) h.lt.1).trans h.cs, (hb.cell (p := ⟨bn, 0, none⟩) h.lt.2.1).trans h.cn, (hb.cell (p := ⟨sb, 0, none⟩) h.lt.2.2).trans h.cu, by have := hb.size; have := h.lt; omega⟩
theorem PcsAt.kept {bs bn sb number : Nat} {s : By} {W W' : World} (h : PcsAt bs bn sb number s W) (hk : Kept [bs, bn, sb] W W') : PcsAt bs bn sb number s W' :=
  ⟨(World.cell?_of_block (w := W) (a := ⟨bs, 0, none⟩) (hk.same bs (by simp) h.lt.1)).trans h.cs, (World.cell?_of_block (w := W) (a := ⟨bn, 0, none⟩) (hk.same bn (by simp) h.lt.2.1)).trans h.cn,
    (World.cell?_of_block (w := W) (a := ⟨sb, 0, none⟩) (hk.same sb (by simp) h.lt.2.2)).trans h.cu, by have := hk.size; have := h.lt; omega⟩
set_option maxRecDepth 100000 in
set_option maxHeartbeats 4000000 in
theorem pieces_w (w : World) (number : Nat) (s : By) (hs : s.length ≤ 16384) : Calls Tryz.prog 53 #[.int .i64 number, .string ⟨s.toArray⟩] w fun e w' =>
    ∃ bs bn sb, e = .returned (.func (.func 95) #[] #[.pointer (some ⟨bs, 0, none⟩), .pointer (some ⟨bn, 0, none⟩), .pointer (some ⟨sb, 0, none⟩)]) ∧ PcsAt bs bn sb number s w' ∧ w.heap.size ≤ bs ∧ w.heap.size ≤ bn ∧ w.heap.size ≤ sb ∧ Below w.heap.size w w' := by
  obtain ⟨w1, hw1⟩ : ∃ w1, w1 = (w.alloc (.cells #[.int .i64 number] 3)).alloc (.cells #[.string ⟨s.toArray⟩] 9) := ⟨_, rfl⟩
  have hx : w1.heap[w.heap.size]? = some (.cells #[.int .i64 number] 3 (0, 0)) := by
    rw [hw1]; exact (halloc _ _ (by simp)).trans (heap_alloc_new w _)
  have hy : w1.heap[w.heap.size + 1]? = some (.cells #[.string ⟨s.toArray⟩] 9 (0, 0)) := by
    rw [hw1]
    have := heap_alloc_new (w.alloc (.cells #[.int .i64 number] 3)) (.cells #[.string ⟨s.toArray⟩] 9)
    rwa [World.size_alloc] at this
  have hb1 : Below w.heap.size w w1 := by rw [hw1]; exact ((Below.refl _ w).alloc (Nat.le_refl _) _).alloc (by simp) _
  have HW := Lib.hid hw1
  have HB := Lib.hid hb1
  have HX := Lib.hid hx
  have HY := Lib.hid hy
  have cs := cell_at (i := 0) (v := .string ⟨s.toArray⟩) hy rfl
  have hsl := sumN_lt s
  have hwr : IntKind.u64.wrap (sumN s : Int) = (sumN s : Int) := by rw [IntKind.wrap_u64]; omega
  have HSm := Lib.hid (show Calls Tryz.prog 94 #[.string ⟨s.toArray⟩] w1 fun e w' => e = .returned (.int .u32 (sumN s : Nat)) ∧ Below w1.heap.size w1 w' from
    (Cs.sum_any ⟨s.toArray⟩ w1 (by show s.toArray.size ≤ maxLen; rw [List.size_toArray]; simp [maxLen]; omega)).mono fun e w' h => ⟨h.1, h.2⟩)
  clear hw1 hx hy hb1
  generalize hS : sumN s = S at hsl hwr HSm
  have HSe := Lib.hid hS
  clear hS
  go_enter Tryz.func53, Tryz.ntmps53
  go_upto_region 1 with fail
  rw [← HW.out]
  go_wp2_with fail
  refine HSm.out.mono ?_
  rintro e w2 ⟨rfl, hb2⟩
  have HB2 := Lib.hid hb2
  clear cs hb2
  go_wp2_with fail
  go_ret
  have HX2 := heap_below HB2.out (lt_of_block HX.out) HX.out
  have HY2 := heap_below HB2.out (lt_of_block HY.out) HY.out
  have hz : (w2.alloc (.cells #[.int .u64 S] 171)).heap[w2.heap.size]? = some (.cells #[.int .u64 S] 171 (0, 0)) := heap_alloc_new _ _
  have hbz : Below w2.heap.size w2 (w2.alloc (.cells #[.int .u64 S] 171)) := box_below0 _ _ _
  have hs1 := HB.out.size
  have hs2 := HB2.out.size
  have hl1 := lt_of_block HY2
  refine ⟨_, _, _, rfl, ⟨cell_at (heap_below hbz (lt_of_block HY2) HY2) rfl, cell_at (heap_below hbz (lt_of_block HX2) HX2) rfl, by rw [HSe.out]; exact cell_at hz rfl, ?_⟩, by omega, by omega, by omega, (HB.out.trans (HB2.out.mono hs1)).trans (hbz.mono (by omega))⟩
  have := hbz.size
  have := lt_of_block hz
  omega
end

end Go.Proofs.YtjpkdhnponcciaaGreatDoor
