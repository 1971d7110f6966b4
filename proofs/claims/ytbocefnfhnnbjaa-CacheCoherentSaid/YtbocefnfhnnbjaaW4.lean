/-
  The walk of Change. Condition of the contract: at most a million pages.
-/
import Derived.Test.YtbocefnfhnnbjaaW3
namespace Go.Proofs.Ytbocefnfhnnbjaa
open Go.RowKit Go.Sort

def chaAll (C : List ((Int × Int) × Int)) (id n : Int) (l : List Int) : List ((Int × Int) × Int) := l.foldl (fun C p => aset C (id, p) n) C
theorem chaAll_snoc (C id n) (l : List Int) (p : Int) : chaAll C id n (l ++ [p]) = aset (chaAll C id n l) (id, p) n := by unfold chaAll; rw [List.foldl_append]; rfl
theorem take_snoc' {α : Type} (l : List α) (k : Nat) (h : k < l.length) : l.take (k + 1) = l.take k ++ [l[k]] := List.take_succ_eq_append_getElem h

set_option maxHeartbeats 2000000 in
set_option maxRecDepth 100000 in
theorem change_any (w : World) (db rb cb gb B : Nat) (c : Int) (R C G) (id : Int) (a : Option Addr) (cap : Nat) (l : List Int) (h : Dir w db rb cb gb c R C G) (hid : I64 id) (hc0 : 0 ≤ c) (hc1 : c ≤ 100000)
    (hl : Ints w B a l) (hlen : l.length ≤ 1000000) (hB : B ≤ w.heap.size) (hsep : ∀ b off, l ≠ [] → a = some ⟨b, off, none⟩ → b ∉ [db, cb, gb]) :
    Calls Try.prog 13 #[.pointer (some ⟨db, 0, none⟩), .int .i64 id, .slice a l.length cap] w fun e w' =>
      e = .returned (.tuple #[]) ∧ Dir w' db rb cb gb (c + 1) R (chaAll C id (c + 1) l) (G.filter fun p => !(p.1.2.1 == id && l.contains p.1.2.2)) ∧ Only [db, cb, gb] w w' := by
  have hdlt := lt_of_block h.blk
  have hglt := amap_lt h.reg
  have hclt := amap_lt h.cha
  have hd0 := h.count (c' := c + 1) rfl
  have ho0 : Only [db, cb, gb] w (w.setCell ⟨db, 0, none⟩ (.int .i64 (c + 1))) := (Only.refl _ _).setCell (by simp) _
  have hs0 : (w.setCell ⟨db, 0, none⟩ (.int .i64 (c + 1))).heap.size = w.heap.size := by simp
  have hb0 : Below w.heap.size (w.setCell ⟨db, 0, none⟩ (.int .i64 (c + 1))) (((w.setCell ⟨db, 0, none⟩ (.int .i64 (c + 1))).alloc (.cells #[.int .i64 id] 3)).alloc (.cells #[.slice a l.length cap] 31)) := ((Below.refl _ _).alloc (by simp) _).alloc (by simp) _
  have hd1 := hd0.below (by rw [hs0]; exact hb0)
  have ho1 := (ho0.alloc (.cells #[.int .i64 id] 3)).alloc (.cells #[.slice a l.length cap] 31)
  have ha1 : (((w.setCell ⟨db, 0, none⟩ (.int .i64 (c + 1))).alloc (.cells #[.int .i64 id] 3)).alloc (.cells #[.slice a l.length cap] 31)).heap[w.heap.size]? = some (.cells #[.int .i64 id] 3) := by
    have := heap_alloc2_old (w.setCell ⟨db, 0, none⟩ (.int .i64 (c + 1))) (.cells #[.int .i64 id] 3) (.cells #[.slice a l.length cap] 31)
    rwa [hs0] at this
  have ha2 : (((w.setCell ⟨db, 0, none⟩ (.int .i64 (c + 1))).alloc (.cells #[.int .i64 id] 3)).alloc (.cells #[.slice a l.length cap] 31)).heap[w.heap.size + 1]? = some (.cells #[.slice a l.length cap] 31) := by
    have := heap_alloc2_new (w.setCell ⟨db, 0, none⟩ (.int .i64 (c + 1))) (.cells #[.int .i64 id] 3) (.cells #[.slice a l.length cap] 31)
    rwa [hs0] at this
  have c0 := cell_at (i := 0) h.blk rfl
  have f0 := free_at h.blk 0
  have HS := Lib.hid hs0
  clear hs0
  go_enter Try.func13, Try.ntmps13
  go_wp2
  clear c0 f0
  generalize ((w.setCell ⟨db, 0, none⟩ (.int .i64 (c + 1))).alloc (.cells #[.int .i64 id] 3)).alloc (.cells #[.slice a l.length cap] 31) = w2 at hd1 ho1 ha1 ha2 ⊢
  go_loopw [7, 17] (fun _ i wr => ∃ k : Nat, k ≤ l.length ∧ i = .int .i64 k ∧ Dir wr db rb cb gb (c + 1) R (chaAll C id (c + 1) (l.take k)) G ∧ Only [db, cb, gb] w wr ∧
    wr.heap[w.heap.size]? = some (.cells #[.int .i64 id] 3) ∧ wr.heap[w.heap.size + 1]? = some (.cells #[.slice a l.length cap] 31)) (fun _ i _ => l.length - (intOf i).toNat)
  case atStart => exact ⟨0, by omega, rfl, hd1, ho1, ha1, ha2⟩
  case round =>
    clear hd1 ho1 ha1 ha2
    obtain ⟨k, hk, rfl, hd, ho, hi1, hi2⟩ := hrel
    have hlr := hl.only ho hB hsep
    by_cases hlt : k < l.length
    · obtain ⟨b, off, rfl, hb, hc⟩ := hlr.get hlt
      have hbd := i64_bd (hlr.wf _ (List.getElem_mem hlt))
      have d2 := cell_at (i := 2) hd.blk rfl
      have d0 := cell_at (i := 0) hd.blk rfl
      have x0 := cell_at (i := 0) hi1 rfl
      have HI1 := Lib.hid hi1
      have HI2 := Lib.hid hi2
      have hts := Lib.hid (take_snoc' l k hlt)
      clear hi1 hi2
      go_wp2
      go_still_tail 11, (by kernel_rfl)
      refine wpList_aupdate rfl _ _ _ rfl keyPlace Try.underlying70 (amap_keep (w' := wr.drew) hd.cha rfl) rfl (id, l[k]) rfl ⟨hid, hlr.wf _ (List.getElem_mem hlt)⟩ (c + 1) rfl ?_
      intro w3 hm3 hg3 hs3
      have hd3 := Dir.set_cha (hd.keep (w' := wr.drew) (fun _ _ => rfl)) hm3 hg3
      have ho3 : Only [db, cb, gb] w w3 := ho.drew.grown hg3 (fun k hk => by simp at hk; subst hk; simp)
      have j1 : Hid (w3.heap[w.heap.size]? = some (.cells #[.int .i64 id] 3)) := (hg3.block _ (lt_of_block HI1.out) (fun e => amap_ne_cells hd.cha HI1.out (Option.some.inj e))).trans HI1.out
      have j2 : Hid (w3.heap[w.heap.size + 1]? = some (.cells #[.slice (some ⟨b, off, none⟩) l.length cap] 31)) := (hg3.block _ (lt_of_block HI2.out) (fun e => amap_ne_cells hd.cha HI2.out (Option.some.inj e))).trans HI2.out
      clear hm3 hg3 d2 d0 x0 hc
      go_wp2
      go_roundw
      case rel =>
        have hd4 : Dir w3 db rb cb gb (c + 1) R (chaAll C id (c + 1) (l.take (k + 1))) G := by rw [hts.out, chaAll_snoc]; exact hd3
        first | exact ⟨k + 1, by omega, by go_num, hd4, ho3, j1.out, j2.out⟩ | exact ⟨k + 1, by omega, by go_num, hd4, j1.out, j2.out⟩
      case measure => simp [intOf]; omega
    · have hkl : l.take k = l := List.take_of_length_le (by omega)
      rw [hkl] at hd
      clear hkl
      go_wp2_with fail
      refine (forget_any wr db rb cb gb (c + 1) R _ G 31 _ (fun x => x.2.1 == id && l.contains x.2.2) hd (fun w' x ho' hx => changeC w' _ _ B id a cap l x (ho'.heap hi1 (by simp; omega)) (ho'.heap hi2 (by simp; omega)) (hlr.only ho' (by have := ho.size; omega) (fun b off hne e hm => hsep b off hne e (by simp at hm; subst hm; simp))) hlen (by have := ho.size; have := ho'.size; omega)) (fun _ _ => by kernel_rfl)).mono ?_
      rintro e w4 ⟨rfl, hd4, ho4⟩
      go_wp2
      go_end0
      exact ⟨rfl, hd4, ho.trans (only_perm ho4 (by simp))⟩

end Go.Proofs.Ytbocefnfhnnbjaa
