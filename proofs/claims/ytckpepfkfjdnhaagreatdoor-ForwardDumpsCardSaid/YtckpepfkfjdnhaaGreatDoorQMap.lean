/-
  Maps as lists of pairs: what a map's block holds, and what lookups, stores, deletes and ranges do to it. No condition.
-/
import Derived.Test.YtckpepfkfjdnhaaGreatDoorQA
import Derived.Maps.OwnSet
import Derived.Maps.RangeWalk
import Derived.DeepKeys5
namespace Go.Proofs.YtckpepfkfjdnhaaGreatDoor
open Go.RowKit Go.Sort
open Go.Maps (Keyed)
open Go.ChangeMaps (setBlock heap_setBlock_same heap_setBlock_other map_eraseIdx)

section
variable {κ ν : Type} [DecidableEq κ]

def alook (m : List (κ × ν)) (k : κ) : Option ν := (m.find? (fun p => p.1 == k)).map (·.2)
def aset (m : List (κ × ν)) (k : κ) (v : ν) : List (κ × ν) := if m.any (fun p => p.1 == k) then m.map (fun p => if p.1 = k then (k, v) else p) else m ++ [(k, v)]
theorem alook_cons (p : κ × ν) (m : List (κ × ν)) (k : κ) : alook (p :: m) k = if p.1 = k then some p.2 else alook m k := by
 unfold alook
 rw [List.find?_cons]
 by_cases h : p.1 = k
 · simp [h]
 · rw [if_neg h]
   have : (p.1 == k) = false := by simpa using h
   rw [this]
theorem alook_none_iff (m : List (κ × ν)) (k : κ) : alook m k = none ↔ k ∉ m.map Prod.fst := by
 unfold alook
 rw [Option.map_eq_none_iff, List.find?_eq_none, List.mem_map]
 constructor
 · rintro h ⟨p, hp, e⟩; exact h p hp (by simp [e])
 · intro h p hp e; exact h ⟨p, hp, by simpa using e⟩
theorem alook_of_mem {m : List (κ × ν)} (hn : (m.map Prod.fst).Nodup) {k : κ} {v : ν} (h : (k, v) ∈ m) : alook m k = some v := by
 induction m with
 | nil => simp at h
 | cons p m ih =>
   rw [alook_cons]
   rw [List.map_cons, List.nodup_cons] at hn
   rcases List.mem_cons.1 h with rfl | h2
   · simp
   · rw [if_neg (fun e => hn.1 (by rw [e]; exact List.mem_map.2 ⟨_, h2, rfl⟩))]
     exact ih hn.2 h2
theorem alook_append (m l : List (κ × ν)) (k : κ) : alook (m ++ l) k = (alook m k).or (alook l k) := by
 unfold alook
 rw [List.find?_append]
 cases m.find? (fun p => p.1 == k) <;> simp
theorem any_iff (m : List (κ × ν)) (k : κ) : m.any (fun p => p.1 == k) = true ↔ k ∈ m.map Prod.fst := by
 rw [List.any_eq_true, List.mem_map]
 constructor
 · rintro ⟨p, hp, e⟩; exact ⟨p, hp, by simpa using e⟩
 · rintro ⟨p, hp, e⟩; exact ⟨p, hp, by simp [e]⟩
theorem alook_aset (m : List (κ × ν)) (k : κ) (v : ν) (j : κ) : alook (aset m k v) j = if k = j then some v else alook m j := by
 unfold aset
 split
 · rename_i h
   rw [any_iff] at h
   induction m with
   | nil => simp at h
   | cons p m ih =>
     rw [List.map_cons, alook_cons, alook_cons]
     by_cases hp : p.1 = k
     · rw [if_pos hp]
       by_cases hj : k = j
       · rw [if_pos hj, if_pos hj]
       · rw [if_neg hj, if_neg hj, if_neg (by rw [hp]; exact hj)]
         by_cases hm : k ∈ m.map Prod.fst
         · rw [ih hm, if_neg hj]
         · congr 1
           conv => rhs; rw [← List.map_id m]
           apply List.map_congr_left
           intro q hq
           rw [if_neg (fun e => hm (List.mem_map.2 ⟨q, hq, e⟩))]; rfl
     · rw [if_neg hp]
       have hm : k ∈ m.map Prod.fst := by
         rw [List.map_cons, List.mem_cons] at h
         rcases h with h | h
         · exact absurd h.symm hp
         · exact h
       by_cases hj : p.1 = j
       · rw [if_pos hj, if_pos hj, if_neg (fun e => hp (by rw [hj, e]))]
       · rw [if_neg hj, if_neg hj, ih hm]
 · rename_i h
   rw [any_iff] at h
   rw [alook_append, alook_cons]
   by_cases hj : k = j
   · subst hj; rw [(alook_none_iff m k).2 h]; simp
   · simp only [if_neg hj]
     cases h5 : alook m j <;> simp [alook]
theorem aset_keys (m : List (κ × ν)) (k : κ) (v : ν) : (aset m k v).map Prod.fst = if k ∈ m.map Prod.fst then m.map Prod.fst else m.map Prod.fst ++ [k] := by
 unfold aset
 by_cases h : k ∈ m.map Prod.fst
 · rw [if_pos ((any_iff m k).2 h), if_pos h, List.map_map]
   apply List.map_congr_left
   intro p _
   by_cases hp : p.1 = k
   · simp [hp]
   · simp [hp]
 · rw [if_neg (fun e => h ((any_iff m k).1 e)), if_neg h, List.map_append]; rfl
theorem aset_nodup {m : List (κ × ν)} (hn : (m.map Prod.fst).Nodup) (k : κ) (v : ν) : ((aset m k v).map Prod.fst).Nodup := by
 rw [aset_keys]
 split
 · exact hn
 · rename_i h
   rw [List.nodup_append]
   refine ⟨hn, by simp, ?_⟩
   intro a ha b hb e
   simp at hb
   subst hb e
   exact h ha
end

section
variable {κ ν : Type}

/-- What the keys of a map are: values of some Lean type, that the model reads as keys. -/
structure KeyS (P : Program) (K : TypeId) (kv : κ → Value) (ok : κ → Prop) : Prop where
 inj : ∀ {a b : κ}, kv a = kv b → a = b
 law : Keyed P K
 key : ∀ {k : κ}, ok k → ∃ l, keyOf P K (kv k) = some l

/-- Block b of w is a map that holds the pairs m. -/
def amap (w : World) (b : Nat) (kv : κ → Value) (vv : ν → Value) (ok : κ → Prop) (m : List (κ × ν)) : Prop :=
 ∃ (es : Array MapEntry) (clock : Nat), w.heap[b]? = some (.map es clock) ∧ es.toList.map (fun e => (e.key, e.val)) = m.map (fun p => (kv p.1, vv p.2)) ∧
   (∀ p ∈ m, ok p.1) ∧ (m.map Prod.fst).Nodup ∧ (∀ e ∈ es.toList, e.born < clock) ∧ (es.toList.map (·.born)).Nodup

variable {P : Program} {K T E : TypeId} {kv : κ → Value} {vv : ν → Value} {ok : κ → Prop} {w : World} {b : Nat} {m : List (κ × ν)}

theorem amap_lt (h : amap w b kv vv ok m) : b < w.heap.size := by obtain ⟨es, cl, h1, _⟩ := h; exact lt_of_block h1
theorem amap_keep {w' : World} (h : amap w b kv vv ok m) (hb : w'.heap[b]? = w.heap[b]?) : amap w' b kv vv ok m := by
 obtain ⟨es, cl, h1, h2⟩ := h; exact ⟨es, cl, hb.trans h1, h2⟩
/-- A map that has just been made. -/
theorem amap_new (w : World) (kv : κ → Value) (vv : ν → Value) (ok : κ → Prop) : amap (w.alloc (.map #[] 0)) w.heap.size kv vv ok [] :=
 ⟨#[], 0, heap_alloc_new _ _, rfl, by simp, by simp, by simp, by simp⟩

theorem entry_at {es : Array MapEntry} (h : es.toList.map (fun e => (e.key, e.val)) = m.map (fun p => (kv p.1, vv p.2))) {j : Nat} {e : MapEntry} (he : es.toList[j]? = some e) :
   ∃ p, m[j]? = some p ∧ e.key = kv p.1 ∧ e.val = vv p.2 := by
 have h1 := congrArg (fun l => l[j]?) h
 simp only [List.getElem?_map, he, Option.map_some] at h1
 cases hm : m[j]? with
 | none => rw [hm] at h1; simp at h1
 | some p => rw [hm] at h1; simp at h1; exact ⟨p, rfl, h1.1, h1.2⟩
theorem entry_mem {es : Array MapEntry} (h : es.toList.map (fun e => (e.key, e.val)) = m.map (fun p => (kv p.1, vv p.2))) {e : MapEntry} (he : e ∈ es.toList) :
   ∃ p ∈ m, e.key = kv p.1 ∧ e.val = vv p.2 := by
 obtain ⟨j, hj⟩ := List.getElem?_of_mem he
 obtain ⟨p, hp, h1⟩ := entry_at h hj
 exact ⟨p, List.mem_of_getElem? hp, h1⟩

/-! A range over a map, under way: the keys in S have come. No entry is laid into the map meanwhile. -/
end

section
variable {κ ν : Type} [DecidableEq κ]
variable {P : Program} {K T E : TypeId} {kv : κ → Value} {vv : ν → Value} {ok : κ → Prop} {w : World} {b : Nat} {m : List (κ × ν)}

/-- The model's search for a key. -/
theorem amap_find (S : KeyS P K kv ok) {es : Array MapEntry} (h : es.toList.map (fun e => (e.key, e.val)) = m.map (fun p => (kv p.1, vv p.2))) (hok : ∀ p ∈ m, ok p.1) (hn : (m.map Prod.fst).Nodup) {k : κ} (hk : ok k) (w : World) :
   ((Instr.findKey K (kv k) es.toList).run P w = .ok none w ∧ alook m k = none) ∨
   ∃ j e v, (Instr.findKey K (kv k) es.toList).run P w = .ok (some (j, e.val)) w ∧ es.toList[j]? = some e ∧ e.key = kv k ∧ e.val = vv v ∧ m[j]? = some (k, v) ∧ alook m k = some v := by
 obtain ⟨l, hl⟩ := S.key hk
 have hkeys : ∀ e ∈ es.toList, ∃ l, keyOf P K e.key = some l := by
   intro e he
   obtain ⟨p, hp, h1, _⟩ := entry_mem h he
   rw [h1]; exact S.key (hok p hp)
 rcases S.law.find w hl es.toList hkeys with ⟨h1, h2⟩ | ⟨j, e, h1, h2, h3⟩
 · left
   refine ⟨h1, (alook_none_iff m k).2 ?_⟩
   intro hm
   obtain ⟨p, hp, e⟩ := List.mem_map.1 hm
   obtain ⟨j, hj⟩ := List.getElem?_of_mem hp
   have h4 := congrArg (fun l => l[j]?) h
   simp only [List.getElem?_map, hj, Option.map_some] at h4
   cases he : es.toList[j]? with
   | none => rw [he] at h4; simp at h4
   | some x =>
     rw [he] at h4; simp at h4
     exact h2 x (List.mem_of_getElem? he) (by rw [h4.1, e])
 · right
   obtain ⟨p, hp, h4, h5⟩ := entry_at h h2
   have : p.1 = k := S.inj (h4.symm.trans h3)
   refine ⟨j, e, p.2, h1, h2, h3, h5, by rw [hp, ← this], ?_⟩
   apply alook_of_mem hn
   rw [← this]; exact List.mem_of_getElem? hp

theorem amap_lookup_ok (S : KeyS P K kv ok) (hT : P.underlying T = some (.map K E)) (h : amap w b kv vv ok m) {k : κ} (hk : ok k) {z : Value} (hz : (zeroValue E).run P w = .ok z w) :
   (Instr.lookup T (.map (some b)) (kv k) true).run P w = .ok (.tuple #[((alook m k).map vv).getD z, .bool (alook m k).isSome]) w := by
 obtain ⟨es, cl, hb, h1, h2, h3, _⟩ := h
 obtain ⟨l, hl⟩ := S.key hk
 rcases amap_find S h1 h2 h3 hk w with ⟨hr, ha⟩ | ⟨j, e, v, hr, _, _, hv, _, ha⟩
 · simp [Instr.lookup, run_underlying hT, MapKept.run_getObj_map hb, S.law.check w _ hl, hr, hz, Result.andThen, ha]
 · simp [Instr.lookup, run_underlying hT, MapKept.run_getObj_map hb, S.law.check w _ hl, hr, Result.andThen, ha, hv]

theorem map_set_at {l : List (κ × ν)} (hn : (l.map Prod.fst).Nodup) {j : Nat} {k : κ} {v0 : ν} (hj : l[j]? = some (k, v0)) (v : ν) : l.map (fun p => if p.1 = k then (k, v) else p) = l.set j (k, v) := by
 apply List.ext_getElem?
 intro i
 rw [List.getElem?_map, List.getElem?_set]
 by_cases e : j = i
 · subst e
   have hlt : j < l.length := (List.getElem?_eq_some_iff.1 hj).1
   rw [hj]; simp [hlt]
 · rw [if_neg e]
   cases hi : l[i]? with
   | none => rfl
   | some p =>
     simp only [Option.map_some]
     congr 1
     rw [if_neg]
     intro hp
     have h1 : (l.map Prod.fst)[i]? = some k := by rw [List.getElem?_map, hi]; simp [hp]
     have h2 : (l.map Prod.fst)[j]? = some k := by rw [List.getElem?_map, hj]; rfl
     have hlt : j < (l.map Prod.fst).length := (List.getElem?_eq_some_iff.1 h2).1
     exact e ((List.getElem?_inj hlt hn).1 (h2.trans h1.symm))

/-- m[k] = v. -/
theorem amap_update (S : KeyS P K kv ok) (hT : P.underlying T = some (.map K E)) (h : amap w b kv vv ok m) {k : κ} (hk : ok k) (v : ν) :
   ∃ w', (Instr.mapUpdate T (.map (some b)) (kv k) (vv v)).run P w = .ok () w' ∧ amap w' b kv vv ok (aset m k v) ∧ w.grownBy w' (some b) ∧ w'.heap.size = w.heap.size := by
 obtain ⟨es, cl, hb, h1, h2, h3, h4, h5⟩ := h
 obtain ⟨l, hl⟩ := S.key hk
 have hsz : ∀ o : Obj, (setBlock w b o).heap.size = w.heap.size := fun o => by simp [setBlock]
 have hgr : ∀ o : Obj, w.grownBy (setBlock w b o) (some b) := fun o => ⟨rfl, rfl, rfl, by rw [hsz]; exact Nat.le_refl _, fun i _ hi => heap_setBlock_other hb _ (fun e => hi (by rw [e]))⟩
 rcases amap_find S h1 h2 h3 hk w with ⟨hr, ha⟩ | ⟨j, e, v0, hr, hj, hkey, hv, hmj, ha⟩
 · have hnot := (alook_none_iff m k).1 ha
   have hset : aset m k v = m ++ [(k, v)] := by unfold aset; rw [if_neg (fun e => hnot ((any_iff m k).1 e))]
   refine ⟨setBlock w b (.map (es.push ⟨kv k, vv v, cl⟩) (cl + 1)), ?_, ⟨_, _, heap_setBlock_same hb _, ?_, ?_, ?_, ?_, ?_⟩, hgr _, hsz _⟩
   · simp [Instr.mapUpdate, run_underlying hT, MapKept.run_getObj_map hb, S.law.check w false hl, hr, MapKept.run_setObj_map _ hb, Result.andThen, setBlock]
   · rw [hset, Array.toList_push, List.map_append, List.map_append, h1]; rfl
   · rw [hset]; intro p hp
     rcases List.mem_append.1 hp with h | h
     · exact h2 p h
     · simp at h; rw [h]; exact hk
   · exact aset_nodup h3 k v
   · intro x hx
     rw [Array.toList_push] at hx
     rcases List.mem_append.1 hx with h | h
     · have := h4 x h; omega
     · simp at h; rw [h]; simp
   · rw [Array.toList_push, List.map_append, List.nodup_append]
     refine ⟨h5, by simp, ?_⟩
     intro a ha b hb e
     simp at hb
     obtain ⟨x, hx, rfl⟩ := List.mem_map.1 ha
     have := h4 x hx
     omega
 · have hin : k ∈ m.map Prod.fst := List.mem_map.2 ⟨_, List.mem_of_getElem? hmj, rfl⟩
   have hset : aset m k v = m.set j (k, v) := by unfold aset; rw [if_pos ((any_iff m k).2 hin), map_set_at h3 hmj]
   have hjs : j < es.size := by have := (List.getElem?_eq_some_iff.1 hj).1; simpa using this
   have hje : es[j]? = some e := by simpa using hj
   have hmod : (es.modify j fun x => { x with key := kv k, val := vv v }).toList = es.toList.set j { e with key := kv k, val := vv v } := by
     rw [Array.toList_modify]
     apply List.ext_getElem?
     intro i
     rw [List.getElem?_modify, List.getElem?_set]
     by_cases hi : j = i
     · subst hi
       rw [hj]; simp [hjs]
     · simp [hi]
   refine ⟨setBlock w b (.map (es.modify j fun x => { x with key := kv k, val := vv v }) cl), ?_, ⟨_, _, heap_setBlock_same hb _, ?_, ?_, ?_, ?_, ?_⟩, hgr _, hsz _⟩
   · have hst := S.law.stays w hl
     simp [Instr.mapUpdate, run_underlying hT, MapKept.run_getObj_map hb, S.law.check w false hl, hr, MapKept.run_setObj_map _ hb, Result.andThen, setBlock, hje, hkey, hst]
   · rw [hset, hmod, List.map_set, List.map_set, h1]
   · rw [hset]; intro p hp
     rcases List.mem_or_eq_of_mem_set hp with h | h
     · exact h2 p h
     · rw [h]; exact hk
   · exact aset_nodup h3 k v
   · rw [hmod]; intro x hx
     rcases List.mem_or_eq_of_mem_set hx with h | h
     · exact h4 x h
     · rw [h]; exact h4 e (List.mem_of_getElem? hj)
   · rw [hmod, List.map_set]
     have : (es.toList.map (·.born)).set j e.born = es.toList.map (·.born) := by
       apply List.ext_getElem?
       intro i
       rw [List.getElem?_set]
       by_cases hi : j = i
       · subst hi
         rw [if_pos rfl, List.getElem?_map, hj]
         have : j < (es.toList.map (·.born)).length := by simpa using hjs
         rw [if_pos this]; rfl
       · rw [if_neg hi]
     rw [this]; exact h5

variable {ops : Array Oper} {rest : List Oper} {o : Oper} {a : Act} {Q : Exit → Act → World → Prop}
end

section
variable {κ ν : Type}
variable {P : Program} {K T E : TypeId} {kv : κ → Value} {vv : ν → Value} {ok : κ → Prop} {w : World} {b : Nat} {m : List (κ × ν)}
variable {ops : Array Oper} {rest : List Oper} {o : Oper} {a : Act} {Q : Exit → Act → World → Prop}
end
section
open Go.RowKit
def I64 (n : Int) : Prop := (Lit.int .i64 n).wf = true
theorem i64_of {n : Int} (h0 : -9223372036854775808 ≤ n) (h1 : n ≤ 9223372036854775807) : I64 n := by
 unfold I64; simp [Lit.wf, IntKind.min, IntKind.max, IntKind.signed, IntKind.bits]; omega
theorem uInt : Tryz.prog.underlying 3 = some (.int .i64) := by kernel_rfl
theorem keyInt : KeyS Tryz.prog 3 (Value.int .i64) I64 := ⟨fun h => by simpa using h, Maps.int_keyed uInt, fun {k} hk => ⟨_, Maps.keyOf_int_mk uInt hk⟩⟩
end

end Go.Proofs.YtckpepfkfjdnhaaGreatDoor
