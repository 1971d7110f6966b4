/-
  Walks of slices.Contains at ints, of the directory's closures, and of Change, Renew, Forget. No condition.
-/
import Derived.Test.YtbocefnfhnnbjaaW2
namespace Go.Proofs.Ytbocefnfhnnbjaa
open Go.RowKit Go.Sort

/-- A slice of ints that lies below block B. -/
structure Ints (w : World) (B : Nat) (a : Option Addr) (l : List Int) : Prop where
  cells : l ≠ [] → ∃ b off, a = some ⟨b, off, none⟩ ∧ b < B ∧ ∀ i (h : i < l.length), w.cell? ⟨b, off + i, none⟩ = some (.int .i64 l[i])
  wf : ∀ x ∈ l, I64 x
theorem Ints.below {w w' : World} {B a l} (h : Ints w B a l) (hb : Below B w w') : Ints w' B a l :=
  ⟨fun hl => by obtain ⟨b, off, h1, h2, h3⟩ := h.cells hl; exact ⟨b, off, h1, h2, fun i hi => (hb.cell (p := ⟨b, off + i, none⟩) h2).trans (h3 i hi)⟩, h.wf⟩
theorem Ints.mono {w : World} {B B' a l} (h : Ints w B a l) (hB : B ≤ B') : Ints w B' a l :=
  ⟨fun hl => by obtain ⟨b, off, h1, h2, h3⟩ := h.cells hl; exact ⟨b, off, h1, by omega, h3⟩, h.wf⟩
theorem Ints.only {w w' : World} {B a l} {S : List Nat} (h : Ints w B a l) (ho : Only S w w') (hB : B ≤ w.heap.size) (hs : ∀ b off, l ≠ [] → a = some ⟨b, off, none⟩ → b ∉ S) : Ints w' B a l :=
  ⟨fun hl => by
    obtain ⟨b, off, h1, h2, h3⟩ := h.cells hl
    exact ⟨b, off, h1, h2, fun i hi => (World.cell?_of_block (w := w) (a := ⟨b, off + i, none⟩) (ho.block b (by omega) (hs b off hl h1))).trans (h3 i hi)⟩, h.wf⟩
theorem Ints.get {w : World} {B a l} (h : Ints w B a l) {i : Nat} (hi : i < l.length) : ∃ b off, a = some ⟨b, off, none⟩ ∧ b < B ∧ w.cell? ⟨b, off + i, none⟩ = some (.int .i64 l[i]) := by
  obtain ⟨b, off, h1, h2, h3⟩ := h.cells (fun e => by rw [e] at hi; simp at hi)
  exact ⟨b, off, h1, h2, h3 i hi⟩

def idx (l : List Int) (v : Int) : Int := match l.findIdx? (· == v) with | some i => (i : Int) | none => -1

theorem idx_found (l : List Int) (v : Int) (k : Nat) (hk : k < l.length) (hn : ∀ j (h : j < l.length), j < k → l[j] ≠ v) (he : l[k] = v) : idx l v = (k : Int) := by
  unfold idx
  have : l.findIdx? (· == v) = some k := by
    rw [List.findIdx?_eq_some_iff_getElem]
    exact ⟨hk, by simp [he], fun j hj => by simpa using hn j (by omega) hj⟩
  rw [this]
theorem idx_none (l : List Int) (v : Int) (hn : ∀ j (h : j < l.length), l[j] ≠ v) : idx l v = -1 := by
  unfold idx
  have : l.findIdx? (· == v) = none := by
    rw [List.findIdx?_eq_none_iff]
    intro x hx
    obtain ⟨j, hj, rfl⟩ := List.getElem_of_mem hx
    simpa using hn j hj
  rw [this]

set_option maxHeartbeats 400000 in
theorem index_any (w : World) (B : Nat) (a : Option Addr) (cap : Nat) (l : List Int) (v : Int) (h : Ints w B a l) (hl : l.length ≤ 1000000) :
    Calls Try.prog 42 #[.slice a l.length cap, .int .i64 v] w fun e w' => e = .returned (.int .i64 (idx l v)) ∧ w = w' := by
  go_enter Try.func42, Try.ntmps42
  go_wp2
  go_loop [8] (fun i => ∃ k : Nat, k ≤ l.length ∧ i = .int .i64 k ∧ ∀ j (h : j < l.length), j < k → l[j] ≠ v) (fun i => l.length - (intOf i).toNat)
  case atStart => exact ⟨0, by omega, rfl, fun j _ hj => by omega⟩
  case round =>
    obtain ⟨k, hk, rfl, hn⟩ := hrel
    have HN := Lib.hid hn
    clear hn
    by_cases hlt : k < l.length
    · obtain ⟨b, off, rfl, hb, hc⟩ := h.get hlt
      have hbd := i64_bd (h.wf _ (List.getElem_mem hlt))
      by_cases he : v = l[k]
      · have hbool : (v == l[k]) = true := by simpa using he
        have HE := Lib.hid he
        clear he
        go_wp2
        go_ret
        exact ⟨ret_int (idx_found l v k hlt HN.out HE.out.symm).symm, rfl⟩
      · have hbool : (v == l[k]) = false := by simpa using he
        have HE := Lib.hid he
        clear he
        go_wp2
        go_round
        case rel => exact ⟨k + 1, by omega, by go_num, fun j hj hjk => by
          rcases Nat.lt_or_ge j k with h1 | h1
          · exact HN.out j hj h1
          · have : j = k := by omega
            subst this; exact fun e => HE.out e.symm⟩
        case measure => simp [intOf]; omega
    · go_wp2
      go_ret
      exact ⟨ret_int (idx_none l v (fun j hj => HN.out j hj (by omega))).symm, rfl⟩

theorem idx_ge (l : List Int) (v : Int) : decide (0 ≤ idx l v) = l.contains v := by
  rw [Bool.eq_iff_iff]
  unfold idx
  cases h : l.findIdx? (· == v) with
  | none =>
    simp only [decide_eq_true_eq, List.contains_iff_mem]
    rw [List.findIdx?_eq_none_iff] at h
    constructor
    · intro h1; omega
    · intro h1; have := h v h1; simp at this
  | some i =>
    simp only [decide_eq_true_eq, List.contains_iff_mem]
    rw [List.findIdx?_eq_some_iff_getElem] at h
    obtain ⟨hi, he, _⟩ := h
    have : l[i] = v := by simpa using he
    exact ⟨fun _ => this ▸ List.getElem_mem hi, fun _ => by omega⟩

set_option maxHeartbeats 400000 in
theorem contains_any (w : World) (B : Nat) (a : Option Addr) (cap : Nat) (l : List Int) (v : Int) (h : Ints w B a l) (hl : l.length ≤ 1000000) :
    Calls Try.prog 32 #[.slice a l.length cap, .int .i64 v] w fun e w' => e = .returned (.bool (l.contains v)) ∧ w = w' := by
  have H := Lib.hid (idx_ge l v)
  go_enter Try.func32, Try.ntmps32
  go_wp2_with (go_at_call 42; refine (index_any _ _ _ _ _ _ h hl).mono ?_; rintro e w1 ⟨rfl, rfl⟩)
  go_ret
  exact ⟨ret_bool H.out, rfl⟩

set_option maxHeartbeats 400000 in
/-- The closure of Forget, of Renew, of Change. -/
theorem forgetC (w : World) (g : Nat) (s : Int) (x : Int × Int × Int) (hg : w.heap[g]? = some (.cells #[.int .i64 s] 3 (0, 0))) :
    Calls Try.prog 35 (#[kReg x] ++ #[.pointer (some ⟨g, 0, none⟩)]) w fun e w' => e = .returned (.bool (x.1 == s)) ∧ Below w.heap.size w w' := by
  have c0 := cell_at (i := 0) hg rfl
  have hlt := lt_of_block hg
  unfold kReg
  clear hg
  go_enter Try.func35, Try.ntmps35
  go_wp2
  go_ret
  exact ⟨rfl, (Below.refl _ _).alloc (by simp) _⟩
set_option maxHeartbeats 400000 in
theorem renewC (w : World) (g : Nat) (id : Int) (x : Int × Int × Int) (hg : w.heap[g]? = some (.cells #[.int .i64 id] 3 (0, 0))) :
    Calls Try.prog 34 (#[kReg x] ++ #[.pointer (some ⟨g, 0, none⟩)]) w fun e w' => e = .returned (.bool (x.2.1 == id)) ∧ Below w.heap.size w w' := by
  have c0 := cell_at (i := 0) hg rfl
  have hlt := lt_of_block hg
  unfold kReg
  clear hg
  go_enter Try.func34, Try.ntmps34
  go_wp2
  go_ret
  exact ⟨rfl, (Below.refl _ _).alloc (by simp) _⟩
set_option maxHeartbeats 400000 in
theorem changeC (w : World) (g g2 B : Nat) (id : Int) (a : Option Addr) (cap : Nat) (l : List Int) (x : Int × Int × Int) (hg : w.heap[g]? = some (.cells #[.int .i64 id] 3 (0, 0)))
    (hg2 : w.heap[g2]? = some (.cells #[.slice a l.length cap] 31 (0, 0))) (h : Ints w B a l) (hl : l.length ≤ 1000000) (hB : B ≤ w.heap.size) :
    Calls Try.prog 31 (#[kReg x] ++ #[.pointer (some ⟨g, 0, none⟩), .pointer (some ⟨g2, 0, none⟩)]) w fun e w' => e = .returned (.bool (x.2.1 == id && l.contains x.2.2)) ∧ Below w.heap.size w w' := by
  have c0 := cell_at (i := 0) hg rfl
  have c1 := cell_at (i := 0) hg2 rfl
  have hlt := lt_of_block hg
  have hlt2 := lt_of_block hg2
  have hb1 : Below w.heap.size w (w.alloc (.cells #[.int .i64 x.1, .int .i64 x.2.1, .int .i64 x.2.2] 80)) := (Below.refl _ _).alloc (by simp) _
  have h2 := h.below (hb1.mono hB)
  unfold kReg
  clear hg hg2
  cases hx : x.2.1 == id
  · go_enter Try.func31, Try.ntmps31
    go_wp2
    go_ret
    exact ⟨rfl, hb1⟩
  · go_enter Try.func31, Try.ntmps31
    go_wp2_with (go_at_call 32; refine (contains_any _ _ _ _ _ _ h2 hl).mono ?_; rintro e w1 ⟨rfl, rfl⟩)
    go_ret
    exact ⟨ret_bool (by simp), hb1⟩

theorem Dir.count {w w' : World} {db rb cb gb : Nat} {c c' R C G} (h : Dir w db rb cb gb c R C G) (hw : w' = w.setCell ⟨db, 0, none⟩ (.int .i64 c')) : Dir w' db rb cb gb c' R C G := by
  subst hw
  refine ⟨?_, amap_keep h.ren ?_, amap_keep h.cha ?_, amap_keep h.reg ?_, h.rc, h.rg, h.cg⟩
  · exact cell_row_any _ _ _ _ _ _ _ h.blk
  · exact Below.heap_setCell _ _ _ _ (Ne.symm (amap_ne_cells h.ren h.blk))
  · exact Below.heap_setCell _ _ _ _ (Ne.symm (amap_ne_cells h.cha h.blk))
  · exact Below.heap_setCell _ _ _ _ (Ne.symm (amap_ne_cells h.reg h.blk))
/-- A directory whose registrations alone may have turned. -/
theorem only_perm {S T : List Nat} {w w' : World} (h : Only S w w') (hs : ∀ k, k ∈ S → k ∈ T) : Only T w w' := h.mono (fun k hk _ => hs k hk)

set_option maxHeartbeats 1000000 in
set_option maxRecDepth 100000 in
theorem forgetS_any (w : World) (db rb cb gb : Nat) (c : Int) (R C G) (s : Int) (h : Dir w db rb cb gb c R C G) :
    Calls Try.prog 17 #[.pointer (some ⟨db, 0, none⟩), .int .i64 s] w fun e w' =>
      e = .returned (.tuple #[]) ∧ Dir w' db rb cb gb c R C (G.filter fun p => !(p.1.1 == s)) ∧ Only [gb] w w' := by
  have hb0 : Below w.heap.size w (w.alloc (.cells #[.int .i64 s] 3)) := (Below.refl _ _).alloc (by simp) _
  have hd := h.below hb0
  have ha := heap_alloc_new w (.cells #[.int .i64 s] 3)
  have hlt := amap_lt h.reg
  go_enter Try.func17, Try.ntmps17
  go_wp2_with fail
  generalize w.alloc (.cells #[.int .i64 s] 3) = w1 at hb0 hd ha ⊢
  refine (forget_any w1 db rb cb gb c R C G 35 _ (fun x => x.1 == s) hd (fun w' x ho hx => forgetC w' _ s x (ho.heap ha (by simp; omega))) (fun _ _ => by kernel_rfl)).mono ?_
  rintro e w2 ⟨rfl, hd2, ho2⟩
  go_wp2
  go_end0
  exact ⟨rfl, hd2, (Only.of_below hb0).trans ho2⟩

set_option maxHeartbeats 1000000 in
set_option maxRecDepth 100000 in
theorem renew_any (w : World) (db rb cb gb : Nat) (c : Int) (R C G) (id : Int) (h : Dir w db rb cb gb c R C G) (hid : I64 id) (hc0 : 0 ≤ c) (hc1 : c ≤ 100000) :
    Calls Try.prog 15 #[.pointer (some ⟨db, 0, none⟩), .int .i64 id] w fun e w' =>
      e = .returned (.tuple #[]) ∧ Dir w' db rb cb gb (c + 1) (aset R id (c + 1)) C (G.filter fun p => !(p.1.2.1 == id)) ∧ Only [db, rb, gb] w w' := by
  have hdlt := lt_of_block h.blk
  have hglt := amap_lt h.reg
  have hrlt := amap_lt h.ren
  have hd0 := h.count (c' := c + 1) rfl
  have ho0 : Only [db, rb, gb] w (w.setCell ⟨db, 0, none⟩ (.int .i64 (c + 1))) := (Only.refl _ _).setCell (by simp) _
  have hs0 : (w.setCell ⟨db, 0, none⟩ (.int .i64 (c + 1))).heap.size = w.heap.size := by simp
  have hb0 : Below w.heap.size (w.setCell ⟨db, 0, none⟩ (.int .i64 (c + 1))) ((w.setCell ⟨db, 0, none⟩ (.int .i64 (c + 1))).alloc (.cells #[.int .i64 id] 3)) := (Below.refl _ _).alloc (by simp) _
  have hd1 := hd0.below (by rw [hs0]; exact hb0)
  have ho1 := ho0.alloc (.cells #[.int .i64 id] 3)
  have ha1 := heap_alloc_new (w.setCell ⟨db, 0, none⟩ (.int .i64 (c + 1))) (.cells #[.int .i64 id] 3)
  rw [hs0] at ha1
  have c0 := cell_at (i := 0) h.blk rfl
  have f0 := free_at h.blk 0
  have HS := Lib.hid hs0
  clear hs0
  go_enter Try.func15, Try.ntmps15
  go_wp2
  clear c0 f0
  generalize (w.setCell ⟨db, 0, none⟩ (.int .i64 (c + 1))).alloc (.cells #[.int .i64 id] 3) = w2 at hd1 ho1 ha1 ⊢
  have c0 := cell_at (i := 0) hd1.blk rfl
  have c1 := cell_at (i := 1) hd1.blk rfl
  have a0 := cell_at (i := 0) ha1 rfl
  go_still_tail 9, (by kernel_rfl)
  refine wpList_aupdate rfl _ _ _ rfl keyInt Try.underlying69 (amap_keep (w' := w2.drew) hd1.ren rfl) rfl id (by exact rfl) hid (c + 1) (by exact rfl) ?_
  intro w3 hm3 hg3 hs3
  have hd3 : Dir w3 db rb cb gb (c + 1) (aset R id (c + 1)) C G := Dir.set_ren (hd1.keep (w' := w2.drew) (fun _ _ => rfl)) hm3 hg3
  have ho3 : Only [db, rb, gb] w w3 := ho1.drew.grown hg3 (fun k hk => by simp at hk; subst hk; simp)
  have ha3 : w3.heap[w.heap.size]? = some (.cells #[.int .i64 id] 3) := (hg3.block _ (lt_of_block ha1) (fun e => amap_ne_cells hd1.ren ha1 (Option.some.inj e))).trans ha1
  clear hm3 hg3 hs3 c0 c1 a0
  go_wp2_with fail
  refine (forget_any w3 db rb cb gb (c + 1) _ C G 34 _ (fun x => x.2.1 == id) hd3 (fun w' x ho hx => renewC w' _ id x (ho.heap ha3 (by simp; omega))) (fun _ _ => by kernel_rfl)).mono ?_
  rintro e w4 ⟨rfl, hd4, ho4⟩
  go_wp2
  go_end0
  exact ⟨rfl, hd4, ho3.trans (only_perm ho4 (by simp))⟩

end Go.Proofs.Ytbocefnfhnnbjaa
