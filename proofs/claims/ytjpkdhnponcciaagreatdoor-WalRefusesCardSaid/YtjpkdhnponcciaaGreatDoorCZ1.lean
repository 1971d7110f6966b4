/-
  Walks: the program's form of a segment. Condition: texts of at most 65000 bytes; the table of codes is laid. Walks: the program's form of a segment. Condition: texts of at most 60000 bytes; the table of codes is laid. Walks: the parts of a record. No condition. Walks: a record behind a block, as the program adds it. Conditions: block sizes of 9 to 1024, texts of at most 2000 bytes; the table of codes is laid.
  Walks: a record behind a block, as the program adds it. Conditions: block sizes of 9 to 1024, texts of at most 2000 bytes; the table of codes is laid.
  Walks: the stream of blocks, by the reference. Condition: blocks of at most 60,000 bytes, a stream of at most 1,000,000,000. Walk: the stream of S19, for up to ten million blocks.
  Walks: the description that the statement speaks of; the head of a data set. Walks: whether a description is valid, by the reference. Loads of a whole description and of a whole content, kept as one step. No condition. Walks: the reference's head; whether a number can be stored.
-/
import Derived.Test.YtjpkdhnponcciaaGreatDoorCBB
namespace Go.Proofs.YtjpkdhnponcciaaGreatDoor

section
section
open Go.RowKit
attribute [local go_sem] ByteArray.mk_append_mk strOfNums_size ext_drop ext_take

/-- The program's table of codes lies as it was laid. -/
structure Codes (w : World) : Prop where
 pos : 1 < w.heap.size
 c0 : w.cell? ⟨1, 0, none⟩ = some (.bool false)
 c1 : w.cell? ⟨1, 1, none⟩ = some (.bool false)
 c2 : w.cell? ⟨1, 2, none⟩ = some (.bool false)
 c3 : w.cell? ⟨1, 3, none⟩ = some (.bool true)
 c4 : w.cell? ⟨1, 4, none⟩ = some (.bool true)
 c5 : w.cell? ⟨1, 5, none⟩ = some (.bool false)
 c6 : w.cell? ⟨1, 6, none⟩ = some (.bool true)
 c7 : w.cell? ⟨1, 7, none⟩ = some (.bool true)
theorem Codes.below {w w' : World} (h : Codes w) {B : Nat} (hb : Below B w w') (hB : 1 < B) : Codes w' :=
 ⟨Nat.lt_of_lt_of_le h.pos hb.size, (hb.cell (p := ⟨1, 0, none⟩) hB).trans h.c0, (hb.cell (p := ⟨1, 1, none⟩) hB).trans h.c1, (hb.cell (p := ⟨1, 2, none⟩) hB).trans h.c2, (hb.cell (p := ⟨1, 3, none⟩) hB).trans h.c3,
  (hb.cell (p := ⟨1, 4, none⟩) hB).trans h.c4, (hb.cell (p := ⟨1, 5, none⟩) hB).trans h.c5, (hb.cell (p := ⟨1, 6, none⟩) hB).trans h.c6, (hb.cell (p := ⟨1, 7, none⟩) hB).trans h.c7⟩
end

section
open Go.RowKit Go.Sort
attribute [local go_sem] ByteArray.mk_append_mk strOfNums_size ext_drop ext_take

end

section
open Go.RowKit Go.Sort
attribute [local go_sem] ByteArray.mk_append_mk strOfNums_size ext_drop ext_take

structure PartSt (w : World) (b1 b2 b3 : Nat) (r : By) (bg dn : Bool) : Prop where
 rcd : w.heap[b1]? = some (.cells #[.string ⟨r.toArray⟩] 9)
 beg : w.heap[b2]? = some (.cells #[.bool bg] 4)
 don : w.heap[b3]? = some (.cells #[.bool dn] 4)
 h12 : b1 ≠ b2
 h13 : b1 ≠ b3
 h23 : b2 ≠ b3

end

section
open Go.RowKit Go.Sort
attribute [local go_sem] ByteArray.mk_append_mk strOfNums_size ext_drop ext_take

theorem PartSt.below {w w' : World} {b1 b2 b3 : Nat} {r : By} {bg dn : Bool} (h : PartSt w b1 b2 b3 r bg dn) (hb : Below w.heap.size w w') : PartSt w' b1 b2 b3 r bg dn :=
 ⟨heap_below hb (lt_of_block h.rcd) h.rcd, heap_below hb (lt_of_block h.beg) h.beg, heap_below hb (lt_of_block h.don) h.don, h.h12, h.h13, h.h23⟩
theorem PartSt.grown {w w' : World} {b1 b2 b3 : Nat} {r : By} {bg dn : Bool} {row : Option Nat} (h : PartSt w b1 b2 b3 r bg dn) (hg : w.grownBy w' row) (h1 : row ≠ some b1) (h2 : row ≠ some b2) (h3 : row ≠ some b3) : PartSt w' b1 b2 b3 r bg dn :=
 ⟨(hg.block _ (lt_of_block h.rcd) (fun e => h1 e.symm)).trans h.rcd, (hg.block _ (lt_of_block h.beg) (fun e => h2 e.symm)).trans h.beg, (hg.block _ (lt_of_block h.don) (fun e => h3 e.symm)).trans h.don, h.h12, h.h13, h.h23⟩

/-- What the loop still has to give. -/
def restOf (block : Nat) (dn : Bool) (f : Nat) (bg : Bool) (r : By) : List By := if dn then [] else restA block f bg r
end
end

section
open Go.RowKit Go.Sort
attribute [local go_sem] ByteArray.mk_append_mk strOfNums_size ext_drop ext_take

theorem row_own {w : World} {base : Nat} {e : TypeId} {size : Nat} {v : Value} {n : Nat} {xs : List Value} (h : w.ownsRow base e size v n xs) {k : Nat} (hk : v.ownBlock = some k) : base ≤ k := by
 rcases h.2 with ⟨rfl, _⟩ | ⟨g, cap, cur, rfl, hg, _⟩
 · simp [Value.ownBlock] at hk
 · have : g = k := Option.some.inj hk
   omega
theorem own_below {w w' : World} {base : Nat} {e : TypeId} {size : Nat} {v : Value} {n : Nat} {xs : List Value} (h : w.ownsRow base e size v n xs) (hb : Below w.heap.size w w') : w'.ownsRow base e size v n xs := by
 obtain ⟨h1, h2⟩ := h
 refine ⟨h1, ?_⟩
 rcases h2 with h2 | ⟨g, cap, cur, hv, hg, hh, r⟩
 · exact Or.inl h2
 · exact Or.inr ⟨g, cap, cur, hv, hg, heap_below hb (lt_of_block hh) hh, r⟩
theorem own_only {w w' : World} {base : Nat} {e : TypeId} {size : Nat} {v : Value} {n : Nat} {xs : List Value} {S : List Nat} (h : w.ownsRow base e size v n xs) (ho : Only S w w') (hs : ∀ k, v.ownBlock = some k → k ∉ S) : w'.ownsRow base e size v n xs := by
 obtain ⟨h1, h2⟩ := h
 refine ⟨h1, ?_⟩
 rcases h2 with h2 | ⟨g, cap, cur, hv, hg, hh, r⟩
 · exact Or.inl h2
 · exact Or.inr ⟨g, cap, cur, hv, hg, (ho.block g (lt_of_block hh) (hs g (by subst hv; rfl))).trans hh, r⟩
theorem own_nil (w : World) (base : Nat) (e : TypeId) (size : Nat) : w.ownsRow base e size (.slice none 0 0) 0 [] := ⟨by simp, Or.inl ⟨rfl, rfl⟩⟩

theorem own_mono {w : World} {base base' : Nat} {e : TypeId} {size : Nat} {v : Value} {n : Nat} {xs : List Value} (h : w.ownsRow base e size v n xs) (hb : base' ≤ base) : w.ownsRow base' e size v n xs := by
 obtain ⟨h1, h2⟩ := h
 refine ⟨h1, ?_⟩
 rcases h2 with h2 | ⟨g, cap, cur, hv, hg, r⟩
 · exact Or.inl h2
 · exact Or.inr ⟨g, cap, cur, hv, Nat.le_trans hb hg, r⟩
theorem add_plain (b off j : Nat) : (⟨b, off, none⟩ : Addr).add j = ⟨b, off + j, none⟩ := by
 unfold Addr.add; split
 · rename_i h; subst h; rfl
 · rfl
theorem news_at {w : World} {g : Nat} {cs : Array Value} {t : TypeId} {fr : Nat × Nat} (hg : w.heap[g]? = some (.cells cs t fr)) : ∀ (j : Nat) (u : Value), cs.toList[j]? = some u → w.cell? ((⟨g, 0, none⟩ : Addr).add j) = some u := by
 intro j u hj
 rw [add_plain, Nat.zero_add, cell_of_row w g j cs t fr hg]
 simpa using hj
theorem seg3 {w : World} {b : Nat} {v0 v1 v2 : Value} {t : TypeId} (h : w.heap[b]? = some (.cells #[v0, v1, v2] t (0, 0))) :
   w.cell? ⟨b, 0, none⟩ = some v0 ∧ w.cell? ⟨b, 1, none⟩ = some v1 ∧ w.cell? ⟨b, 2, none⟩ = some v2 := ⟨cell_at (i := 0) h rfl, cell_at (i := 1) h rfl, cell_at (i := 2) h rfl⟩
/-- What the walk of add holds behind its first statement: the closure's state, and what is still to come. -/
structure AddSt (w : World) (block : Nat) (T : List By) (W : World) (out : List By) (v : Value) (rs : By) (bg dn : Bool) (f : Nat) : Prop where
 bel : Below w.heap.size w W
 part : PartSt W w.heap.size (w.heap.size + 1) (w.heap.size + 1 + 1) rs bg dn
 tot : T = out ++ restOf block dn f bg rs
 fuel : rs.length < f
 len : rs.length ≤ 2000
 own : W.ownsRow (w.heap.size + 1 + 1 + 1) 9 1 v out.length (out.map sv)
theorem restA_le (block : Nat) (hb : 9 ≤ block) : ∀ (f : Nat) (bg : Bool) (r : By), (restA block f bg r).length ≤ r.length + 1
 | 0, _, _ => by simp [restA]
 | f + 1, bg, r => by
   unfold restA
   split
   · simp
   · have := restA_le block hb f true (r.drop (block - 8))
     rw [List.length_drop] at this
     simp; omega
theorem AddSt.small {w W : World} {block : Nat} {T out : List By} {v : Value} {rs : By} {bg dn : Bool} {f : Nat} (h : AddSt w block T W out v rs bg dn f) : out.length ≤ T.length := by
 rw [h.tot, List.length_append]; omega
def AddIs (w : World) (block : Nat) (T : List By) (v : Value) (W : World) : Prop := ∃ out rs bg dn f, AddSt w block T W out v rs bg dn f
end

section
section
open Go.RowKit Go.Sort
attribute [local go_sem] ByteArray.mk_append_mk strOfNums_size ext_drop ext_take

end

section
open Go.RowKit Go.Sort
attribute [local go_sem] ByteArray.mk_append_mk strOfNums_size ext_drop ext_take
end
end

section
section
open Go.RowKit Go.Sort
attribute [local go_sem] ByteArray.mk_append_mk strOfNums_size ext_drop ext_take

/-- The other fields of a description. -/
structure Rest where
 id : Int
 kat : Int
 klen : Int
 ivl : Int
 area : Int
 fivl : Int
 fare : Int
 base : Int
 aat : Int
 alen : Int
 uniq : Bool
 cls : Int
 vol : By
 own : By
 cre : Int
 exp : Int
 arch : Bool
deriving DecidableEq
theorem Below.setRow {B g : Nat} {a w : World} (h : Below B a w) (hg : B ≤ g) (cs : Array Value) : Below B a (w.setRow g cs) :=
 h.trans ⟨rfl, rfl, rfl, by simp, fun k hk => setRow_other w g k _ (by omega)⟩
end

section
open Go.RowKit Go.Sort
variable {z : Rest}

end

section
open Go.RowKit Go.Sort
end

section
open Go.RowKit Go.Sort
attribute [local go_sem] ByteArray.mk_append_mk strOfNums_size ext_drop ext_take

theorem swrite_info : (Tryz.prog.info? 135).map (·.size) = some 2 := by kernel_rfl
theorem ret_sw {fn : Func} {R : Ending → World → Prop} {a : Act} {w : World} {p : Tmp} {rb : Nat} {cs : Array Value} (hf : fn.results = #[.cell p 135]) (hp : a.tmps.getD p undef = .pointer (some ⟨rb, 0, none⟩)) (hd : a.defers = [])
   (hi : cs.size = 2) (hg : w.heap[rb]? = some (.cells cs 135 (0, 0))) (hR : R (.returned (.agg cs)) w) : bodyPost Tryz.prog fn R .ret a w :=
 bodyPost_ret (results_cell_row hf _ _ rb 135 _ (0, 0) _ hp hg Tryz.underlying135 rfl (by rw [swrite_info, hi])) hd hR
/-- The zero write. -/
abbrev swz : Array Value := #[.int .i64 0, .string ⟨#[]⟩]
theorem number_of (n : Nat) (w : World) (h : n < 9223372036854775808) : Calls Tryz.prog 149 #[.int .u64 n] w fun e w' => e = .returned (.string (bs (num n))) ∧ Below w.heap.size w w' :=
 number_any 9 n w (by omega) (Nat.lt_of_lt_of_le h (by decide)) h
end
end

end Go.Proofs.YtjpkdhnponcciaaGreatDoor
