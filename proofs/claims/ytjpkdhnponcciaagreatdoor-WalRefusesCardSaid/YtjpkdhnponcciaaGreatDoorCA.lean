/-
  Walks: the heads of a log: newer, free, place; the number of sectors; a sealed sector. Condition: the numbers are in their bounds.
  Walks: the stores in memory: how many sectors, the reading of a sector. Condition: the store lies in memory.
  Walks: the writing of sectors into a store in memory. Condition: the store and the list lie in memory, apart.
  Walks: a sealed sector. Condition: the text has at most 124 bytes.
  Walks: which of two heads is newer; the write of a head. Condition: the numbers are in their bounds.
  Walks: the write of a head. Condition: its numbers are in their bounds.
-/
import Derived.Test.YtjpkdhnponcciaaGreatDoorCBP9
import Derived.Test.YtjpkdhnponcciaaGreatDoorCBB
import Derived.Test.YtjpkdhnponcciaaGreatDoorCBCC
import Derived.Test.YtjpkdhnponcciaaGreatDoorCBU
namespace Go.Proofs.YtjpkdhnponcciaaGreatDoor

section
open Go.RowKit Go.Sort

abbrev Hw.cs (h : Hw) : Array Value := #[.int .i64 h.n, .int .i64 h.first, .int .i64 h.next, .int .i64 h.at', .int .i64 h.used]
set_option maxRecDepth 100000 in
theorem free_w (h : Hw) (ok : HwOk h) (w : World) : Calls Tryz.prog 70 #[.agg h.cs] w fun e w' => e = .returned (.int .i64 h.free) ∧ Below w.heap.size w w' := by
  obtain ⟨⟨h1, h2⟩, _, _, _, h3⟩ := ok
  have hb : Below w.heap.size w (w.alloc (.cells h.cs 105)) := box_below0 _ _ _
  have HB := Lib.hid hb
  have hx := heap_alloc_new w (.cells h.cs 105)
  have c0 := cell_at (i := 0) (v := .int .i64 h.n) hx rfl
  have c4 := cell_at (i := 4) (v := .int .i64 h.used) hx rfl
  have e1 : IntKind.i64.wrap ((h.n : Int) - 1) = (h.n : Int) - 1 := IntWalk.i64_in _ (by omega)
  have e2 : IntKind.i64.wrap ((h.n : Int) - 1 - (h.used : Int)) = (h.n : Int) - 1 - (h.used : Int) := IntWalk.i64_in _ (by omega)
  have HE := Lib.hid (show (h.n : Int) - 1 - (h.used : Int) = (h.free : Nat) by unfold Hw.free; omega)
  clear hb hx
  go_enter Tryz.func70, Tryz.ntmps70
  go_wp2_with fail
  go_ret
  exact ⟨by rw [HE.out]; rfl, HB.out⟩
set_option maxRecDepth 100000 in
theorem size_w (n : Nat) (hn : n ≤ 1000000) (w : World) : Calls Tryz.prog 77 #[.int .i64 n] w fun e w' => e = .returned (.int .i64 (cntW n : Nat)) ∧ w = w' := by
  have e1 : IntKind.i64.wrap ((n : Int) + 96) = (n : Int) + 96 := IntWalk.i64_in _ (by omega)
  have e2 : IntKind.i64.wrap ((n : Int) + 96 - 1) = (n : Int) + 96 - 1 := IntWalk.i64_in _ (by omega)
  have e3 : ((n : Int) + 96 - 1).tdiv 96 = ((cntW n : Nat) : Int) := by rw [Int.tdiv_eq_ediv_of_nonneg (by omega)]; unfold cntW; omega
  have e4 : IntKind.i64.wrap ((cntW n : Nat) : Int) = ((cntW n : Nat) : Int) := IntWalk.i64_in _ (by unfold cntW; omega)
  go_enter Tryz.func77, Tryz.ntmps77
  go_wp2_with fail
  go_ret
  exact ⟨rfl, rfl⟩
set_option maxRecDepth 100000 in
theorem place_w (h : Hw) (hn : 16 ≤ h.n ∧ h.n ≤ 4096) (a k : Nat) (ha : 1 ≤ a ∧ a ≤ 1000000) (hk : k ≤ 1000000) (w : World) : Calls Tryz.prog 54 #[.agg h.cs, .int .i64 a, .int .i64 k] w fun e w' => e = .returned (.int .i64 (h.place a k : Nat)) ∧ Below w.heap.size w w' := by
  have HB := Lib.hid (box_below0 w h.cs 105)
  have hx := heap_alloc_new w (.cells h.cs 105)
  have c0 := cell_at (i := 0) (v := .int .i64 h.n) hx rfl
  have hp := place_lt (h := h) (by omega) a k
  have e1 : IntKind.i64.wrap ((a : Int) - 1) = (a : Int) - 1 := IntWalk.i64_in _ (by omega)
  have e2 : IntKind.i64.wrap ((a : Int) - 1 + (k : Int)) = (a : Int) - 1 + (k : Int) := IntWalk.i64_in _ (by omega)
  have e3 : IntKind.i64.wrap ((h.n : Int) - 1) = (h.n : Int) - 1 := IntWalk.i64_in _ (by omega)
  have hne : ¬ (h.n : Int) - 1 = 0 := by omega
  have e4 : ((a : Int) - 1 + (k : Int)).tmod ((h.n : Int) - 1) = ((h.place a k : Nat) : Int) - 1 := by
    rw [Int.tmod_eq_emod_of_nonneg (by omega)]
    have e : (a : Int) - 1 + (k : Int) = ((a - 1 + k : Nat) : Int) := by omega
    have e' : (h.n : Int) - 1 = ((h.n - 1 : Nat) : Int) := by omega
    rw [e, e', ← Int.natCast_emod]
    unfold Hw.place
    omega
  have e5 : ((h.place a k : Nat) : Int) - 1 + 1 = ((h.place a k : Nat) : Int) := by omega
  have e6 : IntKind.i64.wrap ((h.place a k : Nat) : Int) = ((h.place a k : Nat) : Int) := IntWalk.i64_in _ (by omega)
  generalize h.place a k = p at e4 e5 e6 hp ⊢
  clear hx
  go_enter Tryz.func54, Tryz.ntmps54
  go_wp2_with fail
  go_ret
  exact ⟨rfl, HB.out⟩
end

section
open Go.RowKit Go.Sort

/-- Where a store lies: its struct, its row of sectors (and the row's room), its map of bad sectors. -/
structure Bk where
  p : Nat
  rb : Nat
  mb : Nat
  cap : Nat
abbrev Bk.s (k : Bk) : List Nat := [k.p, k.rb, k.mb]
def badL (m : List (Int × Bool)) (k : Nat) : Bool := (alook m (k : Int)) == some true
structure MmAt (w : World) (k : Bk) (M : Mm) : Prop where
  row : w.heap[k.p]? = some (.cells #[.slice (some ⟨k.rb, 0, none⟩) M.secs.length k.cap, .map (some k.mb), .int .i64 M.fuse] 64 (0, 0))
  secs : ∀ i (h : i < M.secs.length), w.cell? ⟨k.rb, i, none⟩ = some (.string ⟨M.secs[i].toArray⟩)
  free : ∀ i, w.frozen? ⟨k.rb, i, none⟩ = false
  bad : ∃ m, amap w k.mb (Value.int .i64) Value.bool I64 m ∧ M.bad = badL m
  ne : k.p ≠ k.rb ∧ k.p ≠ k.mb ∧ k.rb ≠ k.mb
  lt : k.p < w.heap.size ∧ k.rb < w.heap.size ∧ k.mb < w.heap.size
  len : M.secs.length ≤ 5000
  full : ∀ s ∈ M.secs, s.length = 128
  fz : -1 ≤ M.fuse ∧ M.fuse ≤ 100
theorem MmAt.below {w w' : World} {k : Bk} {M : Mm} (h : MmAt w k M) (hb : Below w.heap.size w w') : MmAt w' k M := by
  obtain ⟨m, hm, e⟩ := h.bad
  exact ⟨heap_below hb h.lt.1 h.row, fun i hi => (hb.cell (p := ⟨k.rb, i, none⟩) h.lt.2.1).trans (h.secs i hi), fun i => by
    have := h.free i
    rw [← this]
    exact World.frozen?_of_block (w := w) (hb.block _ h.lt.2.1), ⟨m, amap_keep hm (hb.block _ h.lt.2.2), e⟩, h.ne, ⟨by have := hb.size; have := h.lt; omega, by have := hb.size; have := h.lt; omega, by have := hb.size; have := h.lt; omega⟩, h.len, h.full, h.fz⟩
abbrev memV (p : Nat) : Value := .pointer (some ⟨p, 0, none⟩)
set_option maxRecDepth 100000 in
theorem sectors_w (w : World) (k : Bk) (M : Mm) (h : MmAt w k M) : Calls Tryz.prog 302 #[memV k.p] w fun e w' => e = .returned (.tuple #[.int .i64 M.secs.length, .int .i64 0]) ∧ w = w' := by
  have c0 := cell_at (i := 0) (v := .slice (some ⟨k.rb, 0, none⟩) M.secs.length k.cap) h.row rfl
  clear h
  go_enter Tryz.func302, Tryz.ntmps302
  go_wp2_with fail
  go_ret2
  exact ⟨rfl, rfl⟩
/-- What a reading returns. -/
def rdT : Option By → Array Value
  | some s => #[.string ⟨s.toArray⟩, .int .i64 0]
  | none => #[.string ⟨#[]⟩, .int .i64 11]
theorem zero_bool (w : World) : (zeroValue 4).run Tryz.prog w = .ok (.bool false) w := by go_simp
set_option maxRecDepth 100000 in
theorem read_w (w : World) (k : Bk) (M : Mm) (n : Nat) (h : MmAt w k M) (hn : n < M.secs.length) : Calls Tryz.prog 301 #[memV k.p, .int .i64 n] w fun e w' => e = .returned (.tuple (rdT (M.rd n))) ∧ w = w' := by
  have c0 := cell_at (i := 0) (v := .slice (some ⟨k.rb, 0, none⟩) M.secs.length k.cap) h.row rfl
  have c1 := cell_at (i := 1) (v := .map (some k.mb)) h.row rfl
  have cs := h.secs n hn
  have hl := h.len
  obtain ⟨m, hm, e⟩ := h.bad
  have lk := amap_lookup keyInt Tryz.underlying62 hm (show I64 (n : Int) from i64_of (by omega) (by omega)) (zero_bool w)
  have hlk : ((alook m (n : Int)).map Value.bool).getD (.bool false) = .bool (M.bad n) := by
    rw [e]
    unfold badL
    cases alook m (n : Int) with
    | none => rfl
    | some b => cases b <;> rfl
  have hn0 : ¬ (n : Int) < 0 := by omega
  have hnl : ¬ (M.secs.length : Int) ≤ (n : Int) := by omega
  have hR := Lib.hid (show M.rd n = if M.bad n = true then none else some M.secs[n] by unfold Mm.rd; rw [List.getElem?_eq_getElem hn])
  rw [hlk] at lk
  clear h hm e hlk
  cases hb : M.bad n with
  | true =>
    rw [hb] at lk
    have hR' := Lib.hid (show M.rd n = none by rw [hR.out, hb]; rfl)
    clear hb hR
    go_enter Tryz.func301, Tryz.ntmps301
    go_wp2_with fail
    go_ret2
    exact ⟨by rw [hR'.out]; rfl, rfl⟩
  | false =>
    rw [hb] at lk
    have hR' := Lib.hid (show M.rd n = some M.secs[n] by rw [hR.out, hb]; rfl)
    clear hb hR
    go_enter Tryz.func301, Tryz.ntmps301
    go_wp2_with fail
    go_ret2
    exact ⟨by rw [hR'.out]; rfl, rfl⟩
end

section
open Go.RowKit Go.Sort

abbrev wtC (n : Int) (s : By) : Array Value := #[.int .i64 n, .string ⟨s.toArray⟩]
abbrev wtZ : Array Value := #[.int .i64 0, .string ⟨#[]⟩]
theorem info_wt : (Tryz.prog.info? 135).map (·.size) = some 2 := by kernel_rfl
def loadWt (p : Addr) : Sem Value := loadVar 135 p
theorem loadWt_down (p : Addr) : loadVar 135 p = loadWt p := rfl
def storeWt (p : Addr) (v : Value) : Sem Unit := storeVar 135 p v
theorem storeWt_down (p : Addr) (v : Value) : storeVar 135 p v = storeWt p v := rfl
theorem storeWt_at {w : World} {g : Nat} {cs : Array Value} {t : TypeId} {old : Array Value} (hg : w.heap[g]? = some (.cells old t (0, 0))) (hi : cs.size = 2) (ho : old.size = 2) (h1 : cs.all (·.oneCell') = true) : (storeWt ⟨g, 0, none⟩ (.agg cs)).run Tryz.prog w = .ok () (w.setRow g cs) :=
  run_storeVar_row (P := Tryz.prog) w g t 135 old cs hg (by rw [info_wt, hi]) (by rw [ho, hi]) h1
theorem loadWt_mid {w : World} {b o : Nat} {n : Int} {s : By} (h0 : w.cell? ⟨b, o, none⟩ = some (.int .i64 n)) (h1 : w.cell? ⟨b, o + 1, none⟩ = some (.string ⟨s.toArray⟩)) :
    (loadWt ⟨b, o, none⟩).run Tryz.prog w = .ok (.agg (wtC n s)) w :=
  run_loadVar_mid (P := Tryz.prog) w b o 135 [.int .i64 n, .string ⟨s.toArray⟩] _ (fun j v hj => by
    match j with
    | 0 => simp at hj; subst hj; exact h0
    | 1 => simp at hj; subst hj; exact h1
    | j + 2 => simp at hj) Tryz.underlying135 rfl (by rw [info_wt]; rfl)
theorem put_wt (w : World) (n : Int) (s : By) : ∃ W, (storeWt ⟨w.heap.size, 0, none⟩ (.agg (wtC n s))).run Tryz.prog (w.alloc (.cells wtZ 135)) = .ok () W ∧ W.heap[w.heap.size]? = some (.cells (wtC n s) 135 (0, 0)) ∧ Below w.heap.size w W := by
  have hz := heap_alloc_new w (.cells wtZ 135)
  exact ⟨_, storeWt_at hz rfl rfl (by simp [Value.oneCell']), setRow_heap _ _ _ _ _ _ hz, below_setRow (box_below0 w wtZ 135) (Nat.le_refl _) _⟩
theorem MmAt.fuse {w : World} {k : Bk} {M : Mm} (h : MmAt w k M) (f : Int) (hf : -1 ≤ f ∧ f ≤ 100) : MmAt (w.setCell ⟨k.p, 2, none⟩ (.int .i64 f)) k { M with fuse := f } := by
  obtain ⟨m, hm, e⟩ := h.bad
  refine ⟨cell_row_any _ _ _ _ _ _ _ h.row, fun i hi => ?_, fun i => by rw [World.frozen?_setCell]; exact h.free i, ⟨m, amap_keep hm (heap_setCell_other _ _ _ _ (fun e => h.ne.2.1 e.symm)), e⟩, h.ne, by simpa using h.lt, h.len, h.full, hf⟩
  have hne : (⟨k.p, 2, none⟩ : Addr) ≠ ⟨k.rb, i, none⟩ := fun e => h.ne.1 (congrArg Addr.block e)
  rw [World.cell?_setCell_other (h := hne)]
  exact h.secs i hi
theorem badL_del (m : List (Int × Bool)) (n k : Nat) : badL (adel m (n : Int)) k = (if k = n then false else badL m k) := by
  unfold badL
  rw [alook_adel]
  by_cases h : k = n
  · subst h; simp
  · rw [if_neg (by omega), if_neg h]
theorem MmAt.put {w : World} {k : Bk} {M : Mm} (h : MmAt w k M) {n : Nat} {s : By} (hn : n < M.secs.length) (hs : s.length = 128) {m : List (Int × Bool)} (hb : M.bad = badL m) {W w' : World} (hW : W = w.setCell ⟨k.rb, n, none⟩ (.string ⟨s.toArray⟩)) {kv : Int → Value} {vv : Bool → Value}
    (hkv : kv = Value.int .i64) (hvv : vv = Value.bool) (ha : amap w' k.mb kv vv I64 (adel m (n : Int))) (ho : Only [k.mb] W w') : MmAt w' k (M.put (n, s)) := by
  subst hkv hvv
  have hsz : W.heap.size = w.heap.size := by rw [hW]; simp
  have h1 : k.p ∉ [k.mb] := by simpa using h.ne.2.1
  have h2 : k.rb ∉ [k.mb] := by simpa using h.ne.2.2
  have hlen : (M.put (n, s)).secs.length = M.secs.length := by simp [Mm.put]
  have hlt := h.lt
  have hos := ho.size
  refine ⟨?_, fun i hi => ?_, fun i => ?_, ⟨_, ha, ?_⟩, h.ne, by omega, by rw [hlen]; exact h.len, ?_, h.fz⟩
  · have hr := (heap_setCell_other w ⟨k.rb, n, none⟩ k.p (.string ⟨s.toArray⟩) h.ne.1).trans h.row
    rw [← hW] at hr
    rw [hlen]
    exact ho.heap hr h1
  · rw [ho.cell (p := ⟨k.rb, i, none⟩) (by show k.rb < _; omega) h2, hW]
    have hi' : i < M.secs.length := by omega
    by_cases e : i = n
    · subst e
      rw [World.cell?_setCell_same' _ _ _ (by rw [h.secs i hi']; rfl)]
      simp [Mm.put]
    · have hne : (⟨k.rb, n, none⟩ : Addr) ≠ ⟨k.rb, i, none⟩ := fun h' => e (congrArg Addr.off h').symm
      rw [World.cell?_setCell_other (h := hne), h.secs i hi']
      simp only [Mm.put]
      rw [List.getElem_set_ne (fun e' => e e'.symm)]
  · have : w'.frozen? ⟨k.rb, i, none⟩ = W.frozen? ⟨k.rb, i, none⟩ := World.frozen?_of_block (w := W) (ho.block k.rb (by omega) h2)
    rw [this, hW, World.frozen?_setCell]; exact h.free i
  · funext j
    rw [badL_del]
    show (if j = n then false else M.bad j) = _
    rw [hb]
  · intro x hx
    rcases List.mem_or_eq_of_mem_set hx with hx | rfl
    · exact h.full x hx
    · exact hs
theorem puts_with : ∀ (l : List (Nat × By)) (M : Mm) (f : Int), ({ M.puts l with fuse := f } : Mm) = Mm.puts { M with fuse := f } l
  | [], _, _ => rfl
  | x :: l, M, f => puts_with l (M.put x) f
/-- Writes in memory, in a block that is none of those of S. -/
structure Wts (w : World) (S : List Nat) (a : Option Addr) (l : List (Nat × By)) : Prop where
  cells : l ≠ [] → ∃ b off, a = some ⟨b, off, none⟩ ∧ b < w.heap.size ∧ b ∉ S ∧ ∀ i (h : i < l.length), w.cell? ⟨b, off + i * 2, none⟩ = some (.int .i64 l[i].1) ∧ w.cell? ⟨b, off + i * 2 + 1, none⟩ = some (.string ⟨l[i].2.toArray⟩)
theorem Wts.get {w : World} {S : List Nat} {a : Option Addr} {l : List (Nat × By)} (h : Wts w S a l) {i : Nat} (hi : i < l.length) : ∃ b off, a = some ⟨b, off, none⟩ ∧ b < w.heap.size ∧ b ∉ S ∧ ∀ W, Only S w W → (loadWt ⟨b, off + i * 2, none⟩).run Tryz.prog W = .ok (.agg (wtC l[i].1 l[i].2)) W := by
  obtain ⟨b, off, h1, h2, h3, h4⟩ := h.cells (fun e => by rw [e] at hi; simp at hi)
  refine ⟨b, off, h1, h2, h3, fun W ho => loadWt_mid ?_ ?_⟩
  · rw [World.cell?_of_block (w := w) (ho.block b h2 h3)]; exact (h4 i hi).1
  · rw [World.cell?_of_block (w := w) (ho.block b h2 h3)]; exact (h4 i hi).2
section
attribute [local go_sem ↓] loadWt_down storeWt_down
set_option maxRecDepth 100000 in
set_option maxHeartbeats 4000000 in
theorem write_w (w : World) (k : Bk) (M : Mm) (a : Option Addr) (cap : Nat) (l : List (Nat × By)) (h : MmAt w k M) (hl : Wts w k.s a l) (hn : l.length ≤ 5000) (hll : ∀ x ∈ l, x.1 ≤ 1000000 ∧ x.2.length ≤ 1000000) :
    Calls Tryz.prog 303 #[memV k.p, .slice a l.length cap] w fun e w' => e = .returned (.int .i64 (M.wr l).1) ∧ MmAt w' k (M.wr l).2 ∧ Only k.s w w' := by
  have c0 := cell_at (i := 0) (v := .slice (some ⟨k.rb, 0, none⟩) M.secs.length k.cap) h.row rfl
  have c2 := cell_at (i := 2) (v := .int .i64 M.fuse) h.row rfl
  have HM := Lib.hid h
  have HL := Lib.hid hl
  have hfz := h.fz
  have hms := h.len
  clear h hl
  by_cases h0 : M.fuse = 0
  · have HW := Lib.hid (show M.wr l = (10, M) by unfold Mm.wr; rw [if_pos h0])
    rw [h0] at c2
    go_enter Tryz.func303, Tryz.ntmps303
    go_wp2_with fail
    go_ret
    rw [HW.out]
    exact ⟨rfl, HM.out, Only.refl _ _⟩
  by_cases h1 : 64 < l.length
  · have HW := Lib.hid (show M.wr l = (8, M) by unfold Mm.wr; rw [if_neg h0, if_pos h1])
    have h1' : (64 : Int) < (l.length : Int) := by omega
    go_enter Tryz.func303, Tryz.ntmps303
    go_wp2_with fail
    go_ret
    rw [HW.out]
    exact ⟨rfl, HM.out, Only.refl _ _⟩
  have h1' : ¬ (64 : Int) < (l.length : Int) := by omega
  go_enter Tryz.func303, Tryz.ntmps303
  go_wp2_with fail
  go_loopw [6, 19] (fun _ i wr => ∃ j : Nat, j ≤ l.length ∧ i = .int .i64 j ∧ (∀ x ∈ l.take j, x.1 < M.secs.length ∧ x.2.length = 128) ∧ Below w.heap.size w wr) (fun _ i _ => l.length - (intOf i).toNat)
  case atStart => exact ⟨0, by omega, rfl, by simp, Below.refl _ _⟩
  case round =>
    obtain ⟨j, hj, rfl, hok, hb⟩ := hrel
    have HB := Lib.hid hb
    have HOK := Lib.hid hok
    have c0r := (hb.cell (p := ⟨k.p, 0, none⟩) HM.out.lt.1).trans c0
    have c2r := (hb.cell (p := ⟨k.p, 2, none⟩) HM.out.lt.1).trans c2
    clear hb hok c0 c2
    by_cases hlt : j < l.length
    · obtain ⟨b, off, rfl, hbb, hbs, hld⟩ := HL.out.get hlt
      have ld := hld wr (Only.of_below HB.out)
      clear hld
      have hx := hll l[j] (List.getElem_mem hlt)
      obtain ⟨W1, st1, hg1, hb1⟩ := put_wt wr l[j].1 l[j].2
      have d0 : W1.cell? ⟨wr.heap.size, 0, none⟩ = _ := cell_at (w := W1) (i := 0) (v := .int .i64 l[j].1) hg1 rfl
      have d1 : W1.cell? ⟨wr.heap.size, 1, none⟩ = _ := cell_at (w := W1) (i := 1) (v := .string ⟨l[j].2.toArray⟩) hg1 rfl
      have c0s : W1.cell? ⟨k.p, 0, none⟩ = _ := (hb1.cell (p := ⟨k.p, 0, none⟩) (by have := HM.out.lt; have := HB.out.size; show k.p < _; omega)).trans c0r
      have HB1 := Lib.hid (fun nq => below_drewN (HB.out.trans (hb1.mono HB.out.size)) nq)
      clear hb1 hg1
      have HN := Lib.hid (fun (hp : l[j].1 < M.secs.length ∧ l[j].2.length = 128) => show ∀ x ∈ l.take (j + 1), x.1 < M.secs.length ∧ x.2.length = 128 by
        intro x hx
        rw [List.take_succ_eq_append_getElem hlt] at hx
        rcases List.mem_append.1 hx with hx | hx
        · exact HOK.out x hx
        · obtain rfl := List.mem_singleton.1 hx; exact hp)
      have HF := Lib.hid (fun (hp : ¬ (l[j].1 < M.secs.length ∧ l[j].2.length = 128)) => show M.wr l = (1, M) by
        unfold Mm.wr
        rw [if_neg h0, if_neg h1, if_neg]
        intro hf
        exact hp (fits_iff.1 hf _ (List.getElem_mem hlt)))
      generalize l[j] = x at *
      obtain ⟨xn, xs⟩ := x
      simp only at *
      have hx0 : decide ((xn : Int) < 0) = false := by simp
      by_cases h2 : xn < M.secs.length
      · have h2' : decide ((M.secs.length : Int) ≤ (xn : Int)) = false := by simp; omega
        by_cases h3 : xs.length = 128
        · have HN' := Lib.hid (HN.out ⟨h2, h3⟩)
          rw [show (128 : Nat) = 128 from rfl] at h3
          have h3' : (xs.length : Int) = 128 := by omega
          clear HN HF
          go_wp2_with fail
          go_quiet (fail)
          go_wp2_with fail
          all_goals first
            | exact ⟨⟨j + 1, by omega, by go_num, HN'.out, HB1.out _⟩, by simp [intOf]; omega⟩
            | (go_roundw
               case rel => exact ⟨j + 1, by omega, by go_num, HN'.out, HB1.out _⟩
               case measure => simp [intOf]; omega)
        · have HF' := Lib.hid (HF.out (fun h => h3 h.2))
          have h3' : ((xs.length : Int) != 128) = true := by rw [bne_iff_ne]; omega
          have h3b : decide ((xs.length : Int) = 128) = false := by simp; omega
          have h3c : ((xs.length : Int) == 128) = false := by rw [beq_eq_false_iff_ne]; omega
          clear HN HF
          go_wp2_with fail
          go_quiet (fail)
          all_goals
           go_wp2_with fail
           go_ret
           rw [HF'.out]
           exact ⟨rfl, HM.out.below (HB1.out _), Only.of_below (HB1.out _)⟩
      · have HF' := Lib.hid (HF.out (fun h => h2 h.1))
        have h2' : decide ((M.secs.length : Int) ≤ (xn : Int)) = true := by simp; omega
        clear HN HF
        go_wp2_with fail
        go_quiet (fail)
        all_goals
         go_wp2_with fail
         go_ret
         rw [HF'.out]
         exact ⟨rfl, HM.out.below (HB1.out _), Only.of_below (HB1.out _)⟩
    · have hf : M.fits l = true := by
        rw [fits_iff]
        have := HOK.out
        rwa [List.take_of_length_le (by omega)] at this
      have HW := Lib.hid (show M.wr l = (0, { M.puts l with fuse := max (M.fuse - 1) (-1) }) by unfold Mm.wr; rw [if_neg h0, if_neg h1, if_pos hf])
      have hwf : IntKind.i64.wrap (M.fuse - 1) = M.fuse - 1 := IntWalk.i64_in _ (by omega)
      have HF0 := Lib.hid ((HM.out.below HB.out).fuse (max (M.fuse - 1) (-1)) (by omega))
      have HO0 := Lib.hid ((Only.of_below (S := k.s) HB.out).setCell (p := ⟨k.p, 2, none⟩) (Or.inl (by simp)) (.int .i64 (max (M.fuse - 1) (-1))))
      have hfr : wr.frozen? ⟨k.p, 2, none⟩ = false := frozen_of_row _ _ 2 _ _ (HM.out.below HB.out).row
      have HLT := Lib.hid hlt
      have HFT := Lib.hid hf
      clear hlt hf
      go_wp2_with fail
      clear c0r c2r hwf hfr
      go_loopw [8, 54] (fun _ i wr => ∃ j : Nat, j ≤ l.length ∧ i = .int .i64 j ∧ MmAt wr k (Mm.puts { M with fuse := max (M.fuse - 1) (-1) } (l.take j)) ∧ Only k.s w wr) (fun _ i _ => l.length - (intOf i).toNat)
      case atStart => exact ⟨0, by omega, rfl, HF0.out, HO0.out⟩
      case round =>
        obtain ⟨j, hj, rfl, hm, ho⟩ := hrel
        have HO := Lib.hid ho
        have HMj := Lib.hid hm
        clear ho hm HF0 HO0 HLT HOK
        by_cases hlt : j < l.length
        · obtain ⟨b, off, rfl, hbb, hbs, hld⟩ := HL.out.get hlt
          have ld := hld wr HO.out
          clear hld
          have hxf := (fits_iff.1 HFT.out) l[j] (List.getElem_mem hlt)
          have hx := hll l[j] (List.getElem_mem hlt)
          have HPU := Lib.hid (show Mm.puts { M with fuse := max (M.fuse - 1) (-1) } (l.take (j + 1)) = (Mm.puts { M with fuse := max (M.fuse - 1) (-1) } (l.take j)).put l[j] by
            rw [List.take_succ_eq_append_getElem hlt]
            unfold Mm.puts
            rw [List.foldl_append]
            rfl)
          have hsl : (Mm.puts { M with fuse := max (M.fuse - 1) (-1) } (l.take j)).secs.length = M.secs.length := by rw [puts_secs, setsL_len]
          generalize Mm.puts { M with fuse := max (M.fuse - 1) (-1) } (l.take j) = N at HMj HPU hsl
          obtain ⟨W1, st1, hg1, hb1⟩ := put_wt wr l[j].1 l[j].2
          have HM1 := Lib.hid (HMj.out.below hb1)
          have HO1 := Lib.hid (HO.out.step_below hb1)
          have d0 : W1.drew.cell? ⟨wr.heap.size, 0, none⟩ = _ := cell_at (w := W1.drew) (i := 0) (v := .int .i64 l[j].1) hg1 rfl
          have d1 : W1.drew.cell? ⟨wr.heap.size, 1, none⟩ = _ := cell_at (w := W1.drew) (i := 1) (v := .string ⟨l[j].2.toArray⟩) hg1 rfl
          have p0 : W1.drew.cell? ⟨k.p, 0, none⟩ = _ := cell_at (w := W1.drew) (i := 0) (v := .slice (some ⟨k.rb, 0, none⟩) N.secs.length k.cap) HM1.out.row rfl
          have fr : W1.drew.frozen? ⟨k.rb, l[j].1, none⟩ = false := HM1.out.free _
          obtain ⟨v0, cs⟩ : ∃ v, W1.drew.cell? ⟨k.rb, l[j].1, none⟩ = some v := ⟨_, HM1.out.secs l[j].1 (by omega)⟩
          have HG1 := Lib.hid hg1
          clear hb1 hg1
          generalize l[j] = x at *
          obtain ⟨xn, xs⟩ := x
          simp only at *
          rw [hsl] at p0
          have hx0 : ¬ (xn : Int) < 0 := by omega
          have h2' : ¬ (M.secs.length : Int) ≤ (xn : Int) := by omega
          have h2'' : (xn : Int) < (M.secs.length : Int) := by omega
          go_wp2_with fail
          go_region
          obtain ⟨m, hm, hmb⟩ := HM1.out.bad
          have HW2 := Lib.hid (rfl : W1.setCell ⟨k.rb, xn, none⟩ (.string ⟨xs.toArray⟩) = W1.setCell ⟨k.rb, xn, none⟩ (.string ⟨xs.toArray⟩))
          have hne := HM1.out.ne
          have hp1 := (heap_setCell_other W1 ⟨k.rb, xn, none⟩ k.p (.string ⟨xs.toArray⟩) hne.1).trans HM1.out.row
          have hx1 := (heap_setCell_other W1 ⟨k.rb, xn, none⟩ wr.heap.size (.string ⟨xs.toArray⟩) (by have := HMj.out.lt; show wr.heap.size ≠ k.rb; omega)).trans HG1.out
          have hm1 : amap (W1.setCell ⟨k.rb, xn, none⟩ (.string ⟨xs.toArray⟩)) k.mb (Value.int .i64) Value.bool I64 m := amap_keep hm (heap_setCell_other W1 ⟨k.rb, xn, none⟩ k.mb (.string ⟨xs.toArray⟩) (fun e => hne.2.2 e.symm))
          have HOS := Lib.hid (HO1.out.setCell (p := ⟨k.rb, xn, none⟩) (Or.inl (by simp)) (.string ⟨xs.toArray⟩))
          obtain ⟨W2, hW2⟩ : ∃ W2, W2 = W1.setCell ⟨k.rb, xn, none⟩ (.string ⟨xs.toArray⟩) := ⟨_, rfl⟩
          rw [← hW2] at hp1 hx1 hm1 HOS ⊢
          have HMW := Lib.hid hW2
          have HMB := Lib.hid hmb
          have HA := Lib.hid hm1
          have e0 : W2.drew.drew.cell? ⟨wr.heap.size, 0, none⟩ = _ := cell_at (w := W2.drew.drew) (i := 0) (v := .int .i64 xn) hx1 rfl
          have e1 : W2.drew.drew.cell? ⟨k.p, 1, none⟩ = _ := cell_at (w := W2.drew.drew) (i := 1) (v := .map (some k.mb)) hp1 rfl
          clear d0 d1 p0 fr cs hW2 hmb hm hp1 hx1 hm1 HW2 ld st1
          go_wp2_with fail
          obtain ⟨W3, hdel, ha, hg, hs⟩ := amap_delete keyInt Tryz.underlying62 (amap_keep (w' := W2.drew.drew) HA.out rfl) (show I64 (xn : Int) from i64_of (by omega) (by omega)) 0
          go_region_law (go_simp; rw [hdel]; go_simp)
          all_goals
            have ho3 : Only [k.mb] W2 W3 := (((Only.refl [k.mb] W2).drew).drew).trans ((Only.refl [k.mb] W2.drew.drew).grown hg (fun j e => by cases e; simp))
            have HM3 := HM1.out.put (by omega : xn < N.secs.length) hxf.2 HMB.out HMW.out rfl rfl ha ho3
            have HO3 := HOS.out.then ho3 (fun i hi => Or.inl (by simp at hi; subst hi; simp))
            go_wp2_with fail
            all_goals first
              | exact ⟨⟨j + 1, by omega, by go_num, by rw [HPU.out]; exact HM3, HO3⟩, by simp [intOf]; omega⟩
              | (go_roundw
                 case rel => exact ⟨j + 1, by omega, by go_num, by rw [HPU.out]; exact HM3, HO3⟩
                 case measure => simp [intOf]; omega)
        · obtain rfl : j = l.length := by omega
          have HM9 := HMj.out
          rw [List.take_length] at HM9
          go_wp2_with fail
          go_ret
          rw [HW.out]
          refine ⟨rfl, ?_, HO.out⟩
          have e : ({ M.puts l with fuse := max (M.fuse - 1) (-1) } : Mm) = Mm.puts { M with fuse := max (M.fuse - 1) (-1) } l := puts_with l M _
          exact e ▸ HM9
end
end

section
open Go.RowKit Go.Sort

set_option maxRecDepth 100000 in
set_option maxHeartbeats 1000000 in
theorem seal_w (s : By) (hs : s.length ≤ 124) (w : World) : Calls Tryz.prog 99 #[.string ⟨s.toArray⟩] w fun e w' => e = .returned (.string ⟨(sectL s).toArray⟩) ∧ Below w.heap.size w w' := by
  go_enter Tryz.func99, Tryz.ntmps99
  go_wp2_with fail
  go_loopw [0] (fun v wr => ∃ j : Nat, s.length + j ≤ 124 ∧ v = .string ⟨(s ++ zeros j).toArray⟩ ∧ wr = w) (fun v _ => match v with | .string b => 124 - b.size | _ => 0)
  case atStart => exact ⟨0, by omega, by simp [zeros], rfl⟩
  case round =>
    obtain ⟨j, hj, rfl, rfl⟩ := hrel
    have hl : (s ++ zeros j).length = s.length + j := by simp [zeros]
    have HT := Lib.hid (show s ++ zeros (j + 1) = (s ++ zeros j) ++ [0] by rw [← zeros_snoc, List.append_assoc])
    have HE := Lib.hid (show s.length + j = 124 → s ++ zeros j = padL s by intro h; unfold padL; rw [show 124 - s.length = j by omega])
    generalize s ++ zeros j = T at hl HT HE
    have HL := Lib.hid hl
    clear hl
    by_cases hlt : T.length < 124
    · have hlt' : (T.length : Int) < 124 := by omega
      go_wp2_with fail
      go_roundw
      case rel => exact ⟨j + 1, by have := HL.out; omega, by rw [HT.out]; first | rfl | (congr 1; apply ByteArray.ext; simp) | simp, by simp⟩
      case measure =>
        have := HL.out
        show 124 - (T ++ [0]).toArray.size < 124 - T.toArray.size
        rw [List.size_toArray, List.size_toArray, List.length_append]
        simp only [List.length_cons, List.length_nil]
        omega
    · have hlt' : ¬ (T.length : Int) < 124 := by omega
      have HC := Lib.hid (Cs.sealed_any ⟨T.toArray⟩ wr (by have := HL.out; show T.toArray.size ≤ 1000; rw [List.size_toArray]; omega))
      go_wp2_with fail
      refine HC.out.mono ?_
      rintro e w2 ⟨rfl, hb2⟩
      go_wp2_with fail
      go_ret
      refine ⟨?_, hb2⟩
      have hT := HE.out (by have := HL.out; omega)
      show Ending.returned (.string (⟨T.toArray⟩ ++ Cs.tailB ⟨T.toArray⟩)) = _
      rw [hT]
      congr 2
end

section
open Go.RowKit Go.Sort

set_option maxRecDepth 100000 in
set_option maxHeartbeats 1000000 in
theorem newer_w (h g : Hw) (w : World) : Calls Tryz.prog 49 #[.agg h.cs, .agg g.cs] w fun e w' => e = .returned (.bool (h.newer g)) ∧ Below w.heap.size w w' := by
  obtain ⟨w2, hw2⟩ : ∃ w2, w2 = (w.alloc (.cells h.cs 105)).alloc (.cells g.cs 105) := ⟨_, rfl⟩
  have hx : w2.heap[w.heap.size]? = some (.cells h.cs 105 (0, 0)) := by
    rw [hw2]; exact (halloc _ _ (by simp)).trans (heap_alloc_new w (.cells h.cs 105))
  have hy : w2.heap[w.heap.size + 1]? = some (.cells g.cs 105 (0, 0)) := by
    rw [hw2]
    have := heap_alloc_new (w.alloc (.cells h.cs 105)) (.cells g.cs 105)
    rwa [World.size_alloc] at this
  have HB := Lib.hid (show Below w.heap.size w w2 by rw [hw2]; exact ((Below.refl _ w).alloc (Nat.le_refl _) _).alloc (by simp) _)
  have HW := Lib.hid hw2
  have x1 := cell_at (i := 1) (v := .int .i64 h.first) hx rfl
  have x2 := cell_at (i := 2) (v := .int .i64 h.next) hx rfl
  have y1 := cell_at (i := 1) (v := .int .i64 g.first) hy rfl
  have y2 := cell_at (i := 2) (v := .int .i64 g.next) hy rfl
  have HN := Lib.hid (show h.newer g = decide (g.next < h.next ∨ h.next = g.next ∧ g.first < h.first) from rfl)
  clear hw2 hx hy
  by_cases c1 : g.next < h.next
  · have c1' : decide ((g.next : Int) < (h.next : Int)) = true := by simp; omega
    have c1i : (g.next : Int) < (h.next : Int) := by omega
    have HV := Lib.hid (show h.newer g = true by rw [HN.out]; simp [c1])
    go_enter Tryz.func49, Tryz.ntmps49
    go_upto_region 1 with fail
    rw [← HW.out]
    go_wp2_with fail
    go_ret
    exact ⟨by rw [HV.out]; rfl, HB.out⟩
  · have c1i : ¬ (g.next : Int) < (h.next : Int) := by omega
    by_cases c2 : h.next = g.next
    · have c2' : (h.next : Int) = (g.next : Int) := by omega
      have HV := Lib.hid (show h.newer g = decide (g.first < h.first) by rw [HN.out]; simp [c2])
      rw [c2'] at x2 c1i
      go_enter Tryz.func49, Tryz.ntmps49
      go_upto_region 1 with fail
      rw [← HW.out]
      go_wp2_with fail
      go_ret
      exact ⟨by rw [HV.out]; rfl, HB.out⟩
    · have c2' : ((h.next : Int) == (g.next : Int)) = false := by rw [beq_eq_false_iff_ne]; omega
      have HV := Lib.hid (show h.newer g = false by rw [HN.out]; simp [c1, c2])
      go_enter Tryz.func49, Tryz.ntmps49
      go_upto_region 1 with fail
      rw [← HW.out]
      go_wp2_with fail
      go_ret
      exact ⟨by rw [HV.out]; rfl, HB.out⟩
end

section
open Go.RowKit Go.Sort

theorem results2 {P : Program} {fn : Func} {p q : Tmp} {ty : TypeId} (h : fn.results = #[.cell p ty, .tmp q]) (tmps : Array Value) {w : World} {g : Nat} {v : Value}
    (hp : tmps.getD p undef = .pointer (some ⟨g, 0, none⟩)) (hl : (loadVar ty ⟨g, 0, none⟩).run P w = .ok v w) : (results fn tmps).run P w = .ok (.tuple #[v, tmps.getD q undef]) w := by
  have hp' : tmps[p]?.getD undef = .pointer (some ⟨g, 0, none⟩) := by simpa using hp
  simp [results, h, hp', asAddr, hl]
theorem results3 {P : Program} {fn : Func} {p q r : Tmp} {ty : TypeId} (h : fn.results = #[.cell p ty, .tmp q, .tmp r]) (tmps : Array Value) {w : World} {g : Nat} {v : Value}
    (hp : tmps.getD p undef = .pointer (some ⟨g, 0, none⟩)) (hl : (loadVar ty ⟨g, 0, none⟩).run P w = .ok v w) : (results fn tmps).run P w = .ok (.tuple #[v, tmps.getD q undef, tmps.getD r undef]) w := by
  have hp' : tmps[p]?.getD undef = .pointer (some ⟨g, 0, none⟩) := by simpa using hp
  simp [results, h, hp', asAddr, hl]
theorem info_hd : (Tryz.prog.info? 105).map (·.size) = some 5 := by kernel_rfl
def loadHd (p : Addr) : Sem Value := loadVar 105 p
theorem loadHd_down (p : Addr) : loadVar 105 p = loadHd p := rfl
def storeHd (p : Addr) (v : Value) : Sem Unit := storeVar 105 p v
theorem storeHd_down (p : Addr) (v : Value) : storeVar 105 p v = storeHd p v := rfl
theorem loadHd_at {w : World} {g : Nat} {cs : Array Value} {t : TypeId} {fr : Nat × Nat} (hg : w.heap[g]? = some (.cells cs t fr)) (hi : cs.size = 5) : (loadHd ⟨g, 0, none⟩).run Tryz.prog w = .ok (.agg cs) w :=
  run_loadVar_row (P := Tryz.prog) w g t 105 cs fr _ hg Tryz.underlying105 rfl (by rw [info_hd, hi])
theorem storeHd_at {w : World} {g : Nat} {cs : Array Value} {t : TypeId} {old : Array Value} (hg : w.heap[g]? = some (.cells old t (0, 0))) (hi : cs.size = 5) (ho : old.size = 5) (h1 : cs.all (·.oneCell') = true) : (storeHd ⟨g, 0, none⟩ (.agg cs)).run Tryz.prog w = .ok () (w.setRow g cs) :=
  run_storeVar_row (P := Tryz.prog) w g t 105 old cs hg (by rw [info_hd, hi]) (by rw [ho, hi]) h1
abbrev hdZ : Array Value := #[.int .i64 0, .int .i64 0, .int .i64 0, .int .i64 0, .int .i64 0]
theorem put_hd (w : World) (cs : Array Value) (hi : cs.size = 5) (h1 : cs.all (·.oneCell') = true) : ∃ W, (storeHd ⟨w.heap.size, 0, none⟩ (.agg cs)).run Tryz.prog (w.alloc (.cells hdZ 105)) = .ok () W ∧ W.heap[w.heap.size]? = some (.cells cs 105 (0, 0)) ∧ Below w.heap.size w W := by
  have hz := heap_alloc_new w (.cells hdZ 105)
  exact ⟨_, storeHd_at hz hi rfl h1, setRow_heap _ _ _ _ _ _ hz, below_setRow (box_below0 w hdZ 105) (Nat.le_refl _) _⟩
theorem ret_hd {fn : Func} {R : Ending → World → Prop} {a : Act} {w : World} {p : Tmp} {rb : Nat} {cs : Array Value} (hf : fn.results = #[.cell p 105]) (hp : a.tmps.getD p undef = .pointer (some ⟨rb, 0, none⟩)) (hd : a.defers = [])
    (hi : cs.size = 5) (hg : w.heap[rb]? = some (.cells cs 105 (0, 0))) (hR : R (.returned (.agg cs)) w) : bodyPost Tryz.prog fn R .ret a w :=
  bodyPost_ret (results_cell_row hf _ _ rb 105 _ (0, 0) _ hp hg Tryz.underlying105 rfl (by rw [info_hd, hi])) hd hR
theorem ret2_hd {fn : Func} {R : Ending → World → Prop} {a : Act} {w : World} {p q : Tmp} {rb : Nat} {cs : Array Value} {v : Value} (hf : fn.results = #[.cell p 105, .tmp q]) (hp : a.tmps.getD p undef = .pointer (some ⟨rb, 0, none⟩)) (hq : a.tmps.getD q undef = v) (hd : a.defers = [])
    (hi : cs.size = 5) (hg : w.heap[rb]? = some (.cells cs 105 (0, 0))) (hR : R (.returned (.tuple #[.agg cs, v])) w) : bodyPost Tryz.prog fn R .ret a w := by
  subst hq
  exact bodyPost_ret (results2 hf _ hp (loadHd_at hg hi)) hd hR
theorem ret_wt {fn : Func} {R : Ending → World → Prop} {a : Act} {w : World} {p : Tmp} {rb : Nat} {cs : Array Value} (hf : fn.results = #[.cell p 135]) (hp : a.tmps.getD p undef = .pointer (some ⟨rb, 0, none⟩)) (hd : a.defers = [])
    (hi : cs.size = 2) (hg : w.heap[rb]? = some (.cells cs 135 (0, 0))) (hR : R (.returned (.agg cs)) w) : bodyPost Tryz.prog fn R .ret a w :=
  bodyPost_ret (results_cell_row hf _ _ rb 135 _ (0, 0) _ hp hg Tryz.underlying135 rfl (by rw [info_wt, hi])) hd hR
theorem int5_at {w : World} {g : Nat} {a b c d e : Nat} {t : TypeId} {fr : Nat × Nat} (hg : w.heap[g]? = some (.cells #[.int .i64 a, .int .i64 b, .int .i64 c, .int .i64 d, .int .i64 e] t fr)) (j : Nat) (hj : j < [a, b, c, d, e].length) : w.cell? ⟨g, j, none⟩ = some (.int .i64 ([a, b, c, d, e][j] : Nat)) := by
  match j, hj with
  | 0, _ => exact cell_at (i := 0) hg rfl
  | 1, _ => exact cell_at (i := 1) hg rfl
  | 2, _ => exact cell_at (i := 2) hg rfl
  | 3, _ => exact cell_at (i := 3) hg rfl
  | 4, _ => exact cell_at (i := 4) hg rfl
def Hw.l (h : Hw) : List Nat := [h.n, h.first, h.next, h.at', h.used]
theorem Hw.b_pre (h : Hw) : h.b = preN h.l := by simp [Hw.b, Hw.l, preN]
section
attribute [local go_sem ↓] loadWt_down storeWt_down
set_option maxRecDepth 100000 in
set_option maxHeartbeats 2000000 in
theorem hwrite_w (h : Hw) (ok : HwOk h) (w : World) : Calls Tryz.prog 81 #[.agg h.cs] w fun e w' => e = .returned (.agg (wtC 0 h.s)) ∧ Below w.heap.size w w' := by
  have hbl := h.b_len ok
  have HS := Lib.hid (show h.s = sectL (preN h.l) by rw [Hw.s, h.b_pre])
  rw [h.b_pre] at hbl
  have hle : ∀ n ∈ h.l, n ≤ 1099511627777 := by
    intro n hn
    obtain ⟨h1, h2, h3, h4, h5⟩ := ok
    simp [Hw.l] at hn
    omega
  have HLE := Lib.hid hle
  clear ok hle
  obtain ⟨w0, hw0⟩ : ∃ w0, w0 = (w.alloc (.cells h.cs 105)).alloc (.cells wtZ 135) := ⟨_, rfl⟩
  have hx : w0.heap[w.heap.size]? = some (.cells h.cs 105 (0, 0)) := by
    rw [hw0]; exact (halloc _ _ (by simp)).trans (heap_alloc_new w (.cells h.cs 105))
  have hy : w0.heap[w.heap.size + 1]? = some (.cells wtZ 135 (0, 0)) := by
    rw [hw0]
    have := heap_alloc_new (w.alloc (.cells h.cs 105)) (.cells wtZ 135)
    rwa [World.size_alloc] at this
  have HB0 := Lib.hid (show Below w.heap.size w w0 by rw [hw0]; exact ((Below.refl _ w).alloc (Nat.le_refl _) _).alloc (by simp) _)
  have HW := Lib.hid hw0
  have HY := Lib.hid hy
  have x0 := cell_at (i := 0) (v := .int .i64 h.n) hx rfl
  have x1 := cell_at (i := 1) (v := .int .i64 h.first) hx rfl
  have x2 := cell_at (i := 2) (v := .int .i64 h.next) hx rfl
  have x3 := cell_at (i := 3) (v := .int .i64 h.at') hx rfl
  have x4 := cell_at (i := 4) (v := .int .i64 h.used) hx rfl
  have HL := Lib.hid (show h.l = [h.n, h.first, h.next, h.at', h.used] from rfl)
  clear hw0 hx hy
  generalize h.s = S at HS ⊢
  go_enter Tryz.func81, Tryz.ntmps81
  go_upto_region 1 with fail
  rw [← HW.out]
  go_wp2_with fail
  clear x0 x1 x2 x3 x4
  obtain ⟨w1, hw1⟩ : ∃ w1, w1 = w0.alloc (.cells #[.int .i64 (h.n : Int), .int .i64 (h.first : Int), .int .i64 (h.next : Int), .int .i64 (h.at' : Int), .int .i64 (h.used : Int)] 3) := ⟨_, rfl⟩
  have hg1 : w1.heap[w0.heap.size]? = some (.cells #[.int .i64 (h.n : Int), .int .i64 (h.first : Int), .int .i64 (h.next : Int), .int .i64 (h.at' : Int), .int .i64 (h.used : Int)] 3 (0, 0)) := by rw [hw1]; exact heap_alloc_new _ _
  have hb1 : Below w0.heap.size w0 w1 := by rw [hw1]; exact box_below0 _ _ _
  rw [← hw1]
  have HG1 := Lib.hid (int5_at hg1)
  have HG2 := Lib.hid (lt_of_block hg1)
  have HB1 := Lib.hid (HB0.out.trans (hb1.mono HB0.out.size))
  have HY1 := Lib.hid (heap_below hb1 (lt_of_block HY.out) HY.out)
  clear hg1 hb1 hw1 HY
  rw [← HL.out] at HG1
  have hl5 : h.l.length = 5 := rfl
  have HL5 := Lib.hid hl5
  clear HL hl5
  generalize h.l = L at HG1 HLE HS hbl HL5
  go_loopw [3, 18] (fun s k wr => ∃ j : Nat, j ≤ 5 ∧ s = .string ⟨(preN (L.take j)).toArray⟩ ∧ k = .int .i64 j ∧ Below w1.heap.size w1 wr) (fun _ k _ => 5 - (intOf k).toNat)
  case atStart => exact ⟨0, by omega, rfl, rfl, Below.refl _ _⟩
  case round =>
    obtain ⟨j, hj, rfl, rfl, hb⟩ := hrel
    have HB := Lib.hid hb
    clear hb
    by_cases hlt : j < 5
    · have jI : (j : Int) < 5 := by omega
      have hltL : j < L.length := by rw [HL5.out]; exact hlt
      have ce := (HB.out.cell (p := ⟨w0.heap.size, j, none⟩) HG2.out).trans (HG1.out j hltL)
      have HT := Lib.hid (preN_take hltL)
      have hpl := preN_len (L.take j)
      rw [List.length_take] at hpl
      have hpl2 : (preN (L.take j)).length ≤ 1000 := by omega
      have hnn : L[j] ≤ 1099511627777 := HLE.out _ (List.getElem_mem hltL)
      clear hpl
      generalize L[j] = n at ce HT hnn
      generalize preN (L.take j) = s at HT hpl2
      have hcv : IntKind.u64.wrap (n : Int) = (n : Int) := by rw [IntKind.wrap_u64]; omega
      have HA := Lib.hid (append_number_any s n wr (by omega) (by omega))
      go_wp2_with fail
      refine HA.out.mono ?_
      rintro e w2 ⟨rfl, hb2⟩
      have HB2 := Lib.hid (HB.out.trans (hb2.mono HB.out.size))
      clear hb2 ce
      go_wp2_with fail
      go_roundw
      case rel => exact ⟨j + 1, by omega, by rw [HT.out], by go_num, HB2.out⟩
      case measure => simp [intOf]; omega
    · have hj3 : j = 5 := by omega
      subst hj3
      have HP := Lib.hid (show preN (L.take 5) = preN L by rw [List.take_of_length_le (by have := HL5.out; omega)])
      rw [HP.out]
      have HS4 := Lib.hid (seal_w (preN L) (by omega) wr)
      generalize preN L = p at HS4 HS
      go_wp2_with fail
      refine HS4.out.mono ?_
      rintro e w2 ⟨rfl, hb2⟩
      have HB2 := Lib.hid (HB.out.trans (hb2.mono HB.out.size))
      have hy2 := heap_below HB2.out (lt_of_block HY1.out) HY1.out
      have st := storeWt_at (cs := wtC 0 (sectL p)) hy2 rfl rfl (by simp [Value.oneCell'])
      have HG := Lib.hid (setRow_heap w2 (w.heap.size + 1) wtZ (wtC 0 (sectL p)) 135 (0, 0) hy2)
      have HBZ := Lib.hid (below_setRow (HB1.out.trans (HB2.out.mono HB1.out.size)) (show w.heap.size ≤ w.heap.size + 1 by omega) (wtC 0 (sectL p)))
      clear hb2 hy2
      go_wp2_with fail
      exact ret_wt (cs := wtC 0 (sectL p)) rfl rfl rfl rfl HG.out (by rw [HS.out]; exact ⟨rfl, HBZ.out⟩)
end
end

end Go.Proofs.YtjpkdhnponcciaaGreatDoor
