/-
  The disk of the law: Decimal at 0, Page. No condition.
-/
import Derived.Test.YtbocefnfhnnbjaaN7
import Derived.Test.YtbocefnfhnnbjaaF0
import Derived.Handy
import Derived.Lib.ItoaLen
import Derived.Laws.IdiomStrings
namespace Go.Proofs.Ytbocefnfhnnbjaa
open Go.RowKit Go.Sort
open Go.Maps (Keyed)

theorem u67 : (match Try.prog.underlying 67 with | some (.array _ _) | some (.struct _) => true | _ => false) = true := by kernel_rfl
set_option maxRecDepth 100000 in
theorem keyed67 : Keyed Try.prog 67 := Keyed.of_law (deep_law_laid laidOut (m := 3) (by omega) (of_decide_eq_true (by kernel_rfl)) (by kernel_rfl) u67)
theorem cells67 : Try.prog.cellsOf 67 = 2 := by kernel_rfl
theorem key67 (a b : Int) (ha : I64 a) (hb : I64 b) : ∃ l, keyOf Try.prog 67 (.agg #[.int .i64 a, .int .i64 b]) = some l := by
  have h2 : Try.prog.keyType 67 = true := by kernel_rfl
  have hs : ∃ n, Try.prog.types.size + 1 = n + 2 := ⟨Try.prog.types.size - 1, by have : 1 ≤ Try.prog.types.size := of_decide_eq_true (by kernel_rfl); omega⟩
  obtain ⟨n, hn⟩ := hs
  have hl : Try.prog.keyLits (n + 2) 67 [.int .i64 a, .int .i64 b] = some [.int .i64 a, .int .i64 b] := by
    unfold Program.keyLits; rw [Try.underlying67]
    simp [cells3, cells67, lits3 n _ ha, lits3 n _ hb, List.range, List.range.loop]
  exact ⟨_, by simp only [keyOf, Try.underlying67, h2, Value.formed, cells67, hn, Value.cells, hl]; rfl⟩
theorem keyPair : KeyS Try.prog 67 kPlace okP := ⟨fun {a b} h => by simp [kPlace] at h; exact Prod.ext h.1 h.2, keyed67, fun {k} hk => key67 _ _ hk.1 hk.2⟩
theorem lookD (w : World) (mb : Nat) (M : List ((Int × Int) × Int)) (x1 x2 : Int) (h : amap w mb kPlace vInt okP M) (hx : okP (x1, x2)) :
    (Instr.lookup 61 (.map (some mb)) (.agg #[.int .i64 x1, .int .i64 x2]) false).run Try.prog w = .ok (((alook M (x1, x2)).map vInt).getD (.int .i64 0)) w :=
  amap_lookup (T := 61) (E := 3) (K := 67) (P := Try.prog) keyPair Try.underlying61 h hx (zero3 w)

attribute [local go_sem] ByteArray.mk_append_mk
theorem mul16 (r : Nat) (h : r < 10) : r = 0 ∨ r = 1 ∨ r = 2 ∨ r = 3 ∨ r = 4 ∨ r = 5 ∨ r = 6 ∨ r = 7 ∨ r = 8 ∨ r = 9 := by omega
theorem digits_len : ∀ (n : Nat), (Lib.decDigits n).length ≤ n + 1 := by
  intro n
  induction n using Nat.strongRecOn with
  | ind n ih =>
    by_cases h10 : n < 10
    · rw [Lib.decDigits_one h10]; simp
    · rw [Lib.decDigits, dif_neg h10, List.length_append]
      have := ih (n / 10) (by omega)
      simp; omega
set_option maxRecDepth 100000 in
set_option maxHeartbeats 2000000 in
theorem decimal_any : ∀ (n : Nat) (_ : n ≤ 1000000) (w : World), Calls Try.prog 41 #[.int .i64 n] w fun e w' => e = .returned (.string ⟨(Lib.decDigits n).toArray⟩) ∧ Below w.heap.size w w' := by
  intro n
  induction n using Nat.strongRecOn with
  | ind n ih =>
    intro hn w
    have hm : n % 10 < 10 := Nat.mod_lt _ (by decide)
    have m1 : (n : Int).tmod 10 = ((n % 10 : Nat) : Int) := by rw [Int.tmod_eq_emod_of_nonneg (by omega)]; rfl
    have m2 : (n : Int).tdiv 10 = ((n / 10 : Nat) : Int) := by rw [Int.tdiv_eq_ediv_of_nonneg (by omega)]; rfl
    obtain ⟨r, hr⟩ : ∃ r, n % 10 = r := ⟨_, rfl⟩
    rw [hr] at hm m1
    have w1 : IntKind.i64.wrap (48 + (r : Int)) = 48 + (r : Int) := by
      rcases mul16 r hm with rfl | rfl | rfl | rfl | rfl | rfl | rfl | rfl | rfl | rfl <;> rfl
    have w2 : IntKind.u8.wrap (48 + (r : Int)) = 48 + (r : Int) := by
      rcases mul16 r hm with rfl | rfl | rfl | rfl | rfl | rfl | rfl | rfl | rfl | rfl <;> rfl
    have w3 : IntKind.i64.wrap (r : Int) = (r : Int) := by
      rcases mul16 r hm with rfl | rfl | rfl | rfl | rfl | rfl | rfl | rfl | rfl | rfl <;> rfl
    obtain ⟨c, hc⟩ : ∃ c, c = UInt8.ofNat (48 + r) := ⟨_, rfl⟩
    have hcn : (48 + (r : Int)) = (c.toNat : Int) := by
      rw [hc]
      rcases mul16 r hm with rfl | rfl | rfl | rfl | rfl | rfl | rfl | rfl | rfl | rfl <;> rfl
    have hcv : (convert 111 9 (.slice (some ⟨w.heap.size, 0, none⟩) 1 1)).run Try.prog (w.alloc (.cells #[.int .u8 (48 + (r : Int))] 5)) = .ok (.string ⟨#[c]⟩) (w.alloc (.cells #[.int .u8 (48 + (r : Int))] 5)) :=
      run_convert_bytes_back (P := Try.prog) _ 111 9 5 ⟨w.heap.size, 0, none⟩ 1 [c] Try.underlying111 Try.underlying5 Try.underlying9 (fun j hj => by
        have : j = 0 := by simpa using hj
        subst this
        rw [hcn]
        exact cell_at (i := 0) (heap_alloc_new w _) rfl)
    have HB := Lib.hid (show Below w.heap.size w (w.alloc (.cells #[.int .u8 (48 + (r : Int))] 5)) from (Below.refl _ _).alloc (Nat.le_refl _) _)
    by_cases h10 : n < 10
    · have HF := Lib.hid (show Lib.decDigits n = [c] by rw [hc, Lib.decDigits_one h10, ← hr, Nat.mod_eq_of_lt h10])
      have h10I : (n : Int) < 10 := by omega
      have h10J : ¬ 10 ≤ (n : Int) := by omega
      clear ih hr hc hcn
      generalize Lib.decDigits n = D at HF ⊢
      go_enter Try.func41, Try.ntmps41
      go_wp2_with fail
      go_ret
      rw [HF.out]
      exact ⟨rfl, HB.out⟩
    · have HF := Lib.hid (show Lib.decDigits n = Lib.decDigits (n / 10) ++ [c] by rw [hc, Lib.decDigits, dif_neg h10, hr])
      have h10I : ¬ (n : Int) < 10 := by omega
      have h10J : 10 ≤ (n : Int) := by omega
      have HC := Lib.hid (fun W => ih (n / 10) (by omega) (by omega) W)
      clear ih hr hc hcn
      generalize Lib.decDigits n = D at HF ⊢
      have hlen := digits_len (n / 10)
      generalize Lib.decDigits (n / 10) = E at HF HC hlen
      have hle2 : ¬ 9223372036854775807 < E.length + 1 := by omega
      generalize hq : n / 10 = q at m2 HC
      have hq1 : (n : Int) / 10 = (q : Int) := by omega
      have hq2 : IntKind.i64.wrap (q : Int) = (q : Int) := IntWalk.i64_in _ (by omega)
      go_enter Try.func41, Try.ntmps41
      go_wp2_with fail
      refine (HC.out _).mono ?_
      rintro e w2 ⟨rfl, hb2⟩
      have HB2 := Lib.hid (HB.out.trans (hb2.mono HB.out.size))
      clear hb2
      go_wp2_with fail
      go_ret
      rw [HF.out]
      exact ⟨by simp, HB2.out⟩

/-- What the disk says of a page. -/
def datN (D : List ((Int × Int) × Int)) (id pg : Int) : Int := (alook D (id, pg)).getD 0
def conB (D : List ((Int × Int) × Int)) (id pg : Int) : ByteArray := ⟨(Lib.decDigits (datN D id pg).toNat).toArray⟩
/-- What a read of the disk returns. -/
def readV (D : List ((Int × Int) × Int)) (id pg : Int) : Value := if 1000 < pg then .tuple #[.string ⟨#[]⟩, .int .i64 2] else .tuple #[.string (conB D id pg), .int .i64 0]
/-- The disk: its pages, the count of reads. -/
structure DiskAt (w : World) (db rb : Nat) (fr : TypeId) (D : List ((Int × Int) × Int)) (r : Int) : Prop where
  data : amap w db kPlace vInt okP D
  reads : w.heap[rb]? = some (.cells #[.int .i64 r] fr (0, 0))
  num : ∀ k v, alook D k = some v → 0 ≤ v ∧ v ≤ 1000000
theorem DiskAt.only {w w' : World} {db rb : Nat} {fr : TypeId} {D : List ((Int × Int) × Int)} {r : Int} {S : List Nat} (h : DiskAt w db rb fr D r) (ho : Only S w w') (h1 : db ∉ S) (h2 : rb ∉ S) : DiskAt w' db rb fr D r :=
  ⟨amap_keep h.data (ho.block db (amap_lt h.data) h1), ho.heap h.reads h2, h.num⟩
theorem DiskAt.below {w w' : World} {db rb : Nat} {fr : TypeId} {D : List ((Int × Int) × Int)} {r : Int} (h : DiskAt w db rb fr D r) (hb : Below w.heap.size w w') : DiskAt w' db rb fr D r := h.only (S := []) (Only.of_below hb) (by simp) (by simp)

set_option maxRecDepth 100000 in
set_option maxHeartbeats 2000000 in
/-- The disk: the content of a page or its error, and one read more. -/
theorem disk_any (w : World) (id pg r : Int) (mb rb : Nat) (fr : TypeId) (D : List ((Int × Int) × Int)) (hid : I64 id) (hpg : I64 pg) (hd : DiskAt w mb rb fr D r) :
    Calls Try.prog 27 #[.agg #[.int .i64 id, .map (some mb), .pointer (some ⟨rb, 0, none⟩)], .int .i64 pg] w fun e w' => e = .returned (readV D id pg) ∧ DiskAt w' mb rb fr D (wrap64 (r + 1)) ∧ Only [rb] w w' := by
  obtain ⟨hm, hr, hnum⟩ := hd
  have hlt := lt_of_block hr
  have c0 := cell_at (i := 0) hr rfl
  have f0 := frozen_of_row _ _ 0 _ _ hr
  have hne := amap_ne_cells hm hr
  obtain ⟨W1, hW1⟩ : ∃ W1, W1 = (w.setCell ⟨rb, 0, none⟩ (.int .i64 (wrap64 (r + 1)))).alloc (.cells #[.int .i64 id, .map (some mb), .pointer (some ⟨rb, 0, none⟩)] 64) := ⟨_, rfl⟩
  have hon : Only [rb] w W1 := by rw [hW1]; exact ((Only.refl _ w).setCell (Or.inl (by simp)) _).alloc _
  have hr1 : W1.heap[rb]? = some (.cells #[.int .i64 (wrap64 (r + 1))] fr (0, 0)) := by
    rw [hW1, halloc _ _ (by simpa using hlt), cell_row_any _ _ _ _ _ _ _ hr]; rfl
  have hd1 : DiskAt W1 mb rb fr D (wrap64 (r + 1)) := ⟨amap_keep hm (hon.block mb (amap_lt hm) (by simpa using hne.symm)), hr1, hnum⟩
  have L := lookD W1 mb D id pg hd1.data ⟨hid, hpg⟩
  obtain ⟨n, hn, hn1⟩ : ∃ n : Nat, datN D id pg = (n : Int) ∧ n ≤ 1000000 := by
    unfold datN
    cases he : alook D (id, pg) with
    | none => exact ⟨0, rfl, by omega⟩
    | some v =>
      obtain ⟨h1, h2⟩ := hnum _ _ he
      exact ⟨v.toNat, by simp; omega, by omega⟩
  have hL : ((alook D (id, pg)).map vInt).getD (.int .i64 0) = .int .i64 (n : Int) := by
    rw [← hn]; unfold datN; cases alook D (id, pg) <;> rfl
  rw [hL] at L
  have HC := Lib.hid (decimal_any n hn1)
  have HE := Lib.hid (show conB D id pg = ⟨(Lib.decDigits n).toArray⟩ by unfold conB; rw [hn]; rfl)
  have HON := Lib.hid hon
  have HD := Lib.hid hd1
  rw [hW1] at L
  have HW1 := Lib.hid hW1
  clear hm hr hon hr1 hW1 hd1 hnum hL hn
  unfold readV
  by_cases h1 : 1000 < pg
  · rw [if_pos h1]
    go_enter Try.func27, Try.ntmps27
    go_wp2_with fail
    go_ret2
    rw [← HW1.out]
    exact ⟨rfl, HD.out, HON.out⟩
  · rw [if_neg h1, HE.out]
    generalize (⟨(Lib.decDigits n).toArray⟩ : ByteArray) = E at HC ⊢
    go_enter Try.func27, Try.ntmps27
    go_wp2_with fail
    rw [← HW1.out]
    refine (HC.out W1).mono ?_
    rintro e w2 ⟨rfl, hb2⟩
    go_wp2_with fail
    go_ret2
    exact ⟨rfl, HD.out.below hb2, HON.out.step_below hb2⟩

end Go.Proofs.Ytbocefnfhnnbjaa
