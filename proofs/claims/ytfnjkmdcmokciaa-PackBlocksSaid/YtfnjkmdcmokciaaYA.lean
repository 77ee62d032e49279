/- A part of the proofs of this seat: YA. No condition is set. -/
import Derived.Ground.Names2Prog
import Derived.KernelRfl
import Derived.Lib.SlicesCompact
import Derived.Shelf.Slices.CompactI
import Derived.Shelf.Sort.Plain
import Derived.Sort.Grow
import Derived.Sort.Row
import Derived.Test.YtfnjkmdcmokciaaProg
import Derived.Test.YtfnjkmdcmokciaaXF
import Derived.Test.YtfnjkmdcmokciaaXS
set_option linter.unusedVariables false
set_option linter.unusedSimpArgs false
/-! ### a contract of the kit's shelf over a slice of ints, as a contract of blocks -/
namespace Go.Sx
theorem SRepG.bare {P : Program} {w : World} {g : Gh} {H : List (List AV)} (hw : WRep w g H) (a : Act) (hd : a.defers = []) (hs : a.tmps.size = 0) :
    SRepG ⟨P, ⟨false, 0, []⟩, w, g, H, 0⟩ ⟨[], [], H⟩ a w g (fun _ => 0) where
  wr := hw
  si := Since.refl hw
  lr := ⟨fun key cs h => by simp [lk] at h, fun key key' h => by simp [lk] at h⟩
  env := fun t e h => by simp [lk] at h
  defs := hd
  size := hs
  n0 := Nat.zero_le _
  om := fun id cs h => by simp at h
theorem putCells_size (d : Array Int) (off : Nat) (c : Array Value) : (Sort.putCells (Value.int .i64) off d c).size = c.size := by simp [Sort.putCells]
theorem putCells_get {d : Array Int} {off k : Nat} {c : Array Value} (hk : k < d.size) (hc : off + k < c.size) : (Sort.putCells (Value.int .i64) off d c)[off + k]? = some (.int .i64 d[k]!) := by
  simp [Sort.putCells, hc, hk]
theorem row_world {w : World} {g : Gh} {H : List (List AV)} {id b δ n : Nat} {zs ys : List Int} {os : Array Obj} (hw : WRep w g H) (hid : H[id]? = some (il zs)) (hcur : g.ρ id zs.length = some (b, δ)) (hlen : ys.length = zs.length) :
    ∃ g', WRep (Sort.grow (Sort.putRow (Value.int .i64) (Sort.ahead w n) b δ ys.toArray) os) g' (H.set id (il ys)) ∧
      Since w g H (Sort.grow (Sort.putRow (Value.int .i64) (Sort.ahead w n) b δ ys.toArray) os) g' (H.set id (il ys)) ∧
      g'.ρ id zs.length = some (b, δ) ∧ Ext w g (Sort.grow (Sort.putRow (Value.int .i64) (Sort.ahead w n) b δ ys.toArray) os) g' := by
  generalize hw' : Sort.grow (Sort.putRow (Value.int .i64) (Sort.ahead w n) b δ ys.toArray) os = w'
  obtain ⟨b₀, δ₀, c, e, k1, k2, k3, k4, k5, k6⟩ := hw.blk id _ hid
  rw [il_len, hcur] at k1; simp only [Option.some.injEq, Prod.mk.injEq] at k1; obtain ⟨rfl, rfl⟩ := k1
  have hblt : b < w.heap.size := (Array.getElem?_eq_some_iff.1 k2).1
  have hheap : w'.heap = w.heap.modify b (Sort.onCells (Sort.putCells (Value.int .i64) δ ys.toArray)) ++ os := by subst hw'; rfl
  have hget : ∀ k, k < w.heap.size → w'.heap[k]? = if b = k then (w.heap[k]?).map (Sort.onCells (Sort.putCells (Value.int .i64) δ ys.toArray)) else w.heap[k]? := by
    intro k hk
    rw [hheap, Array.getElem?_append_left (by simpa using hk), Array.getElem?_modify]
  have hb' : w'.heap[b]? = some (.cells (Sort.putCells (Value.int .i64) δ ys.toArray c) e (0, 0)) := by
    rw [hget b hblt, if_pos rfl, k2]; rfl
  have hk : ∀ k, k < w.heap.size → k ≠ b → w'.heap[k]? = w.heap[k]? := fun k hk hn => by rw [hget k hk, if_neg (Ne.symm hn)]
  have hsz : w.heap.size ≤ w'.heap.size := by rw [hheap]; simp
  have hv : Vals w g (il ys) (Sort.putCells (Value.int .i64) δ ys.toArray c) δ := by
    intro i cv hi
    have hlt : i < ys.length := by have := (List.getElem?_eq_some_iff.1 hi).1; simpa using this
    rw [il_get hlt] at hi
    simp only [Option.some.injEq] at hi; subst hi
    refine ⟨.int .i64 (ys.getD i 0), ?_, rfl, by simp [VRep]⟩
    rw [putCells_get (by simpa using hlt) (by rw [il_len] at k3; omega)]
    congr 2
    simp [List.getD, hlt, getElem!_def]
  have hfr : ∀ a : Addr, a.block = b → w'.frozen? a = w.frozen? a := by
    intro a ha
    simp only [World.frozen?, ha, hb', k2]
  have h := (SRepG.bare (P := default) hw ⟨#[], []⟩ rfl rfl).repl (id := id) (cs := il zs) (cs' := il ys) (b := b) (δ := δ) (b' := b) (δ' := δ) (e := e) hid (by rw [il_len]; exact hcur) (by simp [hlen]) (.inl (Nat.zero_le _))
    hsz hk (fun n hn => by simp only [bsz, hb', k2] at hn ⊢; rw [putCells_size]; exact hn) (fun o => hfr _ rfl) (by subst hw'; exact ⟨rfl, rfl, rfl⟩) hb' (.inl ⟨rfl, rfl⟩) hv (by rw [putCells_size, il_len, hlen]; rw [il_len] at k3; exact k3) hfr
  refine ⟨_, h.1.wr, h.1.si, ?_, h.2⟩
  simp [movG, hlen]
theorem holds_row {w : World} {g : Gh} {H : List (List AV)} {id b δ : Nat} {zs : List Int} (hw : WRep w g H) (hid : H[id]? = some (il zs)) (hcur : g.ρ id zs.length = some (b, δ)) : Sort.Holds (Value.int .i64) w b δ zs.toArray := by
  obtain ⟨b₀, δ₀, c, e, k1, k2, k3, k4, k5, k6⟩ := hw.blk id _ hid
  rw [il_len, hcur] at k1; simp only [Option.some.injEq, Prod.mk.injEq] at k1; obtain ⟨rfl, rfl⟩ := k1
  intro j hj
  have hlt : j < zs.length := by simpa using hj
  rw [CRep_iff] at k4
  obtain ⟨v, h1, h2, h3⟩ := k4 j _ (il_get hlt)
  simp only [VRep] at h3
  refine ⟨?_, by simp [World.frozen?, k2]⟩
  rw [h1, h3]
  simp [List.getD, hlt, getElem!_def]
/-- .. that sorts in place -/
theorem spec_row {P : Program} {f : Nat} {zs ys : List Int} (hlen : ys.length = zs.length) {H : List (List AV)} {id : Nat} (hid : H[id]? = some (il zs))
    (h : ∀ (b off cap : Nat) (w : World), Sort.Holds (Value.int .i64) w b off zs.toArray → b < w.heap.size → zs.length ≤ cap → Calls P f #[.slice (some ⟨b, off, none⟩) zs.length cap] w fun e w' =>
      e = .returned (.tuple #[]) ∧ ∃ n os, w' = Sort.grow (Sort.putRow (Value.int .i64) (Sort.ahead w n) b off ys.toArray) os) :
    Spec P f [.slm id zs.length 0 zs.length 1] H (.tup []) (H.set id (il ys)) := by
  intro w g cargs hw ha
  simp only [LRep, VRep] at ha
  obtain ⟨v, rest, hc, ⟨b, δ, cap, n, hr, rfl, h1, h2, h3, h4⟩, rfl⟩ := ha
  obtain rfl : cargs = #[.slice (some ⟨b, δ + 0, none⟩) zs.length cap] := Array.toList_inj.1 (by simpa using hc)
  rw [Nat.add_zero]
  refine (h b δ cap w (holds_row hw hid hr) (bsz_lt h3) h1).mono ?_
  rintro e w' ⟨rfl, n', os, rfl⟩
  obtain ⟨g', k1, k2, _, _⟩ := row_world (n := n') (os := os) hw hid hr hlen
  exact ⟨.tuple #[], g', rfl, k1, k2, by simp [VRep, LRep]⟩
/-- .. that hands back the slice, cut -/
theorem spec_cut {P : Program} {f : Nat} {zs ys : List Int} {m : Nat} (hlen : ys.length = zs.length) (hm : m ≤ zs.length) {H : List (List AV)} {id : Nat} (hid : H[id]? = some (il zs))
    (h : ∀ (b off cap : Nat) (w : World), Sort.Holds (Value.int .i64) w b off zs.toArray → b < w.heap.size → zs.length ≤ cap → Calls P f #[.slice (some ⟨b, off, none⟩) zs.length cap] w fun e w' =>
      e = .returned (.slice (some ⟨b, off, none⟩) m cap) ∧ ∃ q, w' = Sort.putRow (Value.int .i64) (Sort.ahead w q) b off ys.toArray) :
    Spec P f [.slm id zs.length 0 zs.length 1] H (.slm id zs.length 0 m 1) (H.set id (il ys)) := by
  intro w g cargs hw ha
  simp only [LRep, VRep] at ha
  obtain ⟨v, rest, hc, ⟨b, δ, cap, n, hr, rfl, h1, h2, h3, h4⟩, rfl⟩ := ha
  obtain rfl : cargs = #[.slice (some ⟨b, δ + 0, none⟩) zs.length cap] := Array.toList_inj.1 (by simpa using hc)
  rw [Nat.add_zero]
  refine (h b δ cap w (holds_row hw hid hr) (bsz_lt h3) h1).mono ?_
  rintro e w' ⟨rfl, q, rfl⟩
  obtain ⟨g', k1, k2, k3, k5⟩ := row_world (n := q) (os := #[]) hw hid hr hlen
  rw [Sort.grow_empty] at k1 k2 k5
  refine ⟨_, g', rfl, k1, k2, ?_⟩
  simp only [VRep]
  exact ⟨b, δ, cap, n, k3, by rw [Nat.add_zero], by omega, by omega, k5.bsz b n h3, h4⟩
end Go.Sx

/- The kit's contracts of slices.Sort and slices.Compact over []int, laid at this program by the kit's lay-shelf.mjs and lay-plain.mjs. No condition is set. -/
namespace Go.Proofs
open Go.Shelf
def Try.lays189_ren : Go.Shelf.Ren := ⟨fun | 189 => 133 | 125 => 157 | 257 => 156 | 128 => 170 | 129 => 171 | 294 => 161 | 295 => 162 | 296 => 163 | 297 => 164 | 298 => 165 | 299 => 166 | 216 => 167 | 300 => 168 | 301 => 169 | 328 => 172 | 329 => 173 | 330 => 174 | 331 => 175 | 332 => 176 | 215 => 177 | 343 => 178 | n => n, fun | 28 => 47 | 3 => 3 | 46 => 148 | 0 => 0 | 51 => 176 | 53 => 112 | 4 => 4 | 183 => 169 | 182 => 168 | 131 => 120 | 5 => 5 | 9 => 9 | 218 => 178 | 222 => 182 | 228 => 185 | 229 => 86 | n => n, fun | n => n⟩
theorem Try.lays189 : Go.Proofs.Lays.n189 Try.prog Try.lays189_ren := {
  mixed := by kernel_rfl
  f125 := Try.func157.trans (congrArg some (by kernel_rfl))
  f128 := Try.func170.trans (congrArg some (by kernel_rfl))
  f129 := Try.func171.trans (congrArg some (by kernel_rfl))
  f189 := Try.func133.trans (congrArg some (by kernel_rfl))
  f215 := Try.func177.trans (congrArg some (by kernel_rfl))
  f216 := Try.func167.trans (congrArg some (by kernel_rfl))
  f257 := Try.func156.trans (congrArg some (by kernel_rfl))
  f294 := Try.func161.trans (congrArg some (by kernel_rfl))
  f295 := Try.func162.trans (congrArg some (by kernel_rfl))
  f296 := Try.func163.trans (congrArg some (by kernel_rfl))
  f297 := Try.func164.trans (congrArg some (by kernel_rfl))
  f298 := Try.func165.trans (congrArg some (by kernel_rfl))
  f299 := Try.func166.trans (congrArg some (by kernel_rfl))
  f300 := Try.func168.trans (congrArg some (by kernel_rfl))
  f301 := Try.func169.trans (congrArg some (by kernel_rfl))
  f328 := Try.func172.trans (congrArg some (by kernel_rfl))
  f329 := Try.func173.trans (congrArg some (by kernel_rfl))
  f330 := Try.func174.trans (congrArg some (by kernel_rfl))
  f331 := Try.func175.trans (congrArg some (by kernel_rfl))
  f332 := Try.func176.trans (congrArg some (by kernel_rfl))
  f343 := Try.func178.trans (congrArg some (by kernel_rfl))
  t0 := Try.underlying0
  a0 := Try.isAgg0
  z0 := Try.sizeOf0
  v0 := Try.zeroValue0
  t3 := Try.underlying3
  a3 := Try.isAgg3
  z3 := Try.sizeOf3
  v3 := Try.zeroValue3
  t4 := Try.underlying4
  a4 := Try.isAgg4
  z4 := Try.sizeOf4
  v4 := Try.zeroValue4
  t5 := Try.underlying5
  a5 := Try.isAgg5
  z5 := Try.sizeOf5
  v5 := Try.zeroValue5
  t9 := Try.underlying9
  a9 := Try.isAgg9
  z9 := Try.sizeOf9
  v9 := Try.zeroValue9
  t28 := Try.underlying47
  a28 := Try.isAgg47
  z28 := Try.sizeOf47
  v28 := Try.zeroValue47
  t46 := Try.underlying148
  a46 := Try.isAgg148
  z46 := Try.sizeOf148
  v46 := Try.zeroValue148
  t51 := Try.underlying176
  a51 := Try.isAgg176
  z51 := Try.sizeOf176
  v51 := Try.zeroValue176
  t53 := Try.underlying112
  a53 := Try.isAgg112
  z53 := Try.sizeOf112
  v53 := Try.zeroValue112
  t131 := Try.underlying120
  a131 := Try.isAgg120
  z131 := Try.sizeOf120
  v131 := Try.zeroValue120
  t182 := Try.underlying168
  a182 := Try.isAgg168
  z182 := Try.sizeOf168
  v182 := Try.zeroValue168
  t183 := Try.underlying169
  a183 := Try.isAgg169
  z183 := Try.sizeOf169
  v183 := Try.zeroValue169
  t218 := Try.underlying178
  a218 := Try.isAgg178
  z218 := Try.sizeOf178
  v218 := Try.zeroValue178
  t222 := Try.underlying182
  a222 := Try.isAgg182
  z222 := Try.sizeOf182
  v222 := Try.zeroValue182
  t228 := Try.underlying185
  a228 := Try.isAgg185
  z228 := Try.sizeOf185
  v228 := Try.zeroValue185
  t229 := Try.underlying86
  a229 := Try.isAgg86
  z229 := Try.sizeOf86
  v229 := Try.zeroValue86 }
open Go.Sort Go.RowKit in
theorem Try.slices_Sort_int (blk off cap : Nat) (zs : List Int) (w : World) (hH : Holds (Value.int .i64) w blk off zs.toArray) (hblk : blk < w.heap.size) (hsz : zs.length < 4611686018427387904) :
    Calls Try.prog 133 #[.slice (some ⟨blk, off, none⟩) zs.length cap] w fun e w' =>
      e = .returned (.tuple #[]) ∧ ∃ n os, w' = grow (putRow (Value.int .i64) (Sort.ahead w n) blk off (zs.mergeSort fun x y => decide (x ≤ y)).toArray) os := Any.slices_Sort_int Try.lays189 blk off cap zs w hH hblk hsz
def Try.laysNm220_ren : Go.Shelf.Ren := ⟨fun | 20 => 134 | n => n, fun | 22 => 47 | 3 => 3 | 4 => 4 | 0 => 0 | n => n, fun | n => n⟩
theorem Try.laysNm220 : Go.Proofs.Lays2.n20 Try.prog Try.laysNm220_ren := {
  mixed := by kernel_rfl
  f20 := Try.func134.trans (congrArg some (by kernel_rfl))
  t0 := Try.underlying0
  a0 := Try.isAgg0
  z0 := Try.sizeOf0
  v0 := Try.zeroValue0
  t3 := Try.underlying3
  a3 := Try.isAgg3
  z3 := Try.sizeOf3
  v3 := Try.zeroValue3
  t4 := Try.underlying4
  a4 := Try.isAgg4
  z4 := Try.sizeOf4
  v4 := Try.zeroValue4
  t22 := Try.underlying47
  a22 := Try.isAgg47
  z22 := Try.sizeOf47
  v22 := Try.zeroValue47
  i3 := by kernel_rfl }
open Go.RowKit Go.Lib Go.Sort in
/-- slices.Compact at []int: "Compact replaces consecutive runs of equal elements with a single copy. This is like the uniq command found on Unix. Compact modifies the contents of the slice s and returns the modified slice, which may have a smaller length. Compact zeroes the elements between the new length and the original length. The result preserves the nilness of s.": IT RETURNS THE SLICE CUT TO 'Lib.compact zs'; ITS CELLS HOLD 'Lib.compact zs', THEN ZERO VALUES up to the old length; all else is as it was, but for the count of draws. IN THE WORDS OF slices.Sort's CONTRACT ('Holds', 'putRow'): so the everyday 'slices.Sort(xs); xs = slices.Compact(xs)' goes from the one contract to the other. It asks 'zs.length ≤ cap' (every slice's: the reslicing 's[:k]' looks at it). Length 0, nil: '.._empty'. (LAID: no walk: one application.) -/
theorem Try.slices_Compact_int (blk off cap : Nat) (zs : List Int) (w : World) (hH : Holds (Value.int .i64) w blk off zs.toArray) (hsz : zs.length ≤ 9223372036854775807) (hcap : zs.length ≤ cap) :
    Calls Try.prog 134 #[.slice (some ⟨blk, off, none⟩) zs.length cap] w fun e w' => e = .returned (.slice (some ⟨blk, off, none⟩) (Lib.compact zs).length cap) ∧ ∃ q, w' = putRow (Value.int .i64) (Sort.ahead w q) blk off (Lib.compact zs ++ List.replicate (zs.length - (Lib.compact zs).length) 0).toArray := Any.slices_Compact_int Try.laysNm220 blk off cap zs w hH hsz hcap

end Go.Proofs

set_option maxRecDepth 20000
namespace Go.Sx
open Go.Proofs
instance : TyI Try.prog 0 1 false := ⟨by kernel_rfl, by kernel_rfl⟩
instance : TyI Try.prog 1 1 false := ⟨by kernel_rfl, by kernel_rfl⟩
instance : ZI Try.prog 1 [.raw .nilFunc] := ⟨by kernel_rfl⟩
instance : TyI Try.prog 2 1 false := ⟨by kernel_rfl, by kernel_rfl⟩
instance : ZI Try.prog 2 [.int .i64 0] := ⟨by kernel_rfl⟩
instance : UI Try.prog 2 (.int .i64) := ⟨by kernel_rfl⟩
instance : TyI Try.prog 3 1 false := ⟨by kernel_rfl, by kernel_rfl⟩
instance : ZI Try.prog 3 [.int .i64 0] := ⟨by kernel_rfl⟩
instance : UI Try.prog 3 (.int .i64) := ⟨by kernel_rfl⟩
instance : TyI Try.prog 4 1 false := ⟨by kernel_rfl, by kernel_rfl⟩
instance : ZI Try.prog 4 [.bool false] := ⟨by kernel_rfl⟩
instance : UI Try.prog 4 (.bool) := ⟨by kernel_rfl⟩
instance : TyI Try.prog 5 1 false := ⟨by kernel_rfl, by kernel_rfl⟩
instance : ZI Try.prog 5 [.int .u8 0] := ⟨by kernel_rfl⟩
instance : UI Try.prog 5 (.int .u8) := ⟨by kernel_rfl⟩
instance : TyI Try.prog 6 1 false := ⟨by kernel_rfl, by kernel_rfl⟩
instance : ZI Try.prog 6 [.int .u8 0] := ⟨by kernel_rfl⟩
instance : UI Try.prog 6 (.int .u8) := ⟨by kernel_rfl⟩
instance : TyI Try.prog 7 4 true := ⟨by kernel_rfl, by kernel_rfl⟩
instance : FldI Try.prog 7 0 0 2 := ⟨by kernel_rfl, by kernel_rfl⟩
instance : FldI Try.prog 7 1 1 3 := ⟨by kernel_rfl, by kernel_rfl⟩
instance : FldI Try.prog 7 2 2 4 := ⟨by kernel_rfl, by kernel_rfl⟩
instance : FldI Try.prog 7 3 3 6 := ⟨by kernel_rfl, by kernel_rfl⟩
instance : ZI Try.prog 7 [.int .i64 0, .int .i64 0, .bool false, .int .u8 0] := ⟨by kernel_rfl⟩
instance : BdI Try.prog 7 [.int .i64 0, .int .i64 0, .bool false, .int .u8 0] [(0, 1), (1, 1), (2, 1), (3, 1)] := ⟨by kernel_rfl⟩
instance : TyI Try.prog 8 4 true := ⟨by kernel_rfl, by kernel_rfl⟩
instance : FldI Try.prog 8 0 0 2 := ⟨by kernel_rfl, by kernel_rfl⟩
instance : FldI Try.prog 8 1 1 3 := ⟨by kernel_rfl, by kernel_rfl⟩
instance : FldI Try.prog 8 2 2 4 := ⟨by kernel_rfl, by kernel_rfl⟩
instance : FldI Try.prog 8 3 3 6 := ⟨by kernel_rfl, by kernel_rfl⟩
instance : ZI Try.prog 8 [.int .i64 0, .int .i64 0, .bool false, .int .u8 0] := ⟨by kernel_rfl⟩
instance : BdI Try.prog 8 [.int .i64 0, .int .i64 0, .bool false, .int .u8 0] [(0, 1), (1, 1), (2, 1), (3, 1)] := ⟨by kernel_rfl⟩
instance : TyI Try.prog 9 1 false := ⟨by kernel_rfl, by kernel_rfl⟩
instance : ZI Try.prog 9 [.str .empty] := ⟨by kernel_rfl⟩
instance : UI Try.prog 9 (.string) := ⟨by kernel_rfl⟩
instance : TyI Try.prog 10 1 false := ⟨by kernel_rfl, by kernel_rfl⟩
instance : ZI Try.prog 10 [.str .empty] := ⟨by kernel_rfl⟩
instance : UI Try.prog 10 (.string) := ⟨by kernel_rfl⟩
instance : TyI Try.prog 11 1 false := ⟨by kernel_rfl, by kernel_rfl⟩
instance : ZI Try.prog 11 [.str .empty] := ⟨by kernel_rfl⟩
instance : UI Try.prog 11 (.string) := ⟨by kernel_rfl⟩
instance : TyI Try.prog 12 1 false := ⟨by kernel_rfl, by kernel_rfl⟩
instance : ZI Try.prog 12 [.int .u64 0] := ⟨by kernel_rfl⟩
instance : UI Try.prog 12 (.int .u64) := ⟨by kernel_rfl⟩
instance : TyI Try.prog 13 2 true := ⟨by kernel_rfl, by kernel_rfl⟩
instance : FldI Try.prog 13 0 0 9 := ⟨by kernel_rfl, by kernel_rfl⟩
instance : FldI Try.prog 13 1 1 12 := ⟨by kernel_rfl, by kernel_rfl⟩
instance : ZI Try.prog 13 [.str .empty, .int .u64 0] := ⟨by kernel_rfl⟩
instance : BdI Try.prog 13 [.str .empty, .int .u64 0] [(0, 1), (1, 1)] := ⟨by kernel_rfl⟩
instance : TyI Try.prog 14 2 true := ⟨by kernel_rfl, by kernel_rfl⟩
instance : FldI Try.prog 14 0 0 9 := ⟨by kernel_rfl, by kernel_rfl⟩
instance : FldI Try.prog 14 1 1 12 := ⟨by kernel_rfl, by kernel_rfl⟩
instance : ZI Try.prog 14 [.str .empty, .int .u64 0] := ⟨by kernel_rfl⟩
instance : BdI Try.prog 14 [.str .empty, .int .u64 0] [(0, 1), (1, 1)] := ⟨by kernel_rfl⟩
instance : TyI Try.prog 15 1 false := ⟨by kernel_rfl, by kernel_rfl⟩
instance : ZI Try.prog 15 [.raw (.pointer none)] := ⟨by kernel_rfl⟩
instance : PtI Try.prog 15 := ⟨by kernel_rfl⟩
instance : TyI Try.prog 16 1 false := ⟨by kernel_rfl, by kernel_rfl⟩
instance : ZI Try.prog 16 [.raw (.pointer none)] := ⟨by kernel_rfl⟩
instance : TyI Try.prog 17 1 false := ⟨by kernel_rfl, by kernel_rfl⟩
instance : ZI Try.prog 17 [.raw (.pointer none)] := ⟨by kernel_rfl⟩
instance : PtI Try.prog 17 := ⟨by kernel_rfl⟩
instance : TyI Try.prog 18 1 true := ⟨by kernel_rfl, by kernel_rfl⟩
instance : FldI Try.prog 18 0 0 17 := ⟨by kernel_rfl, by kernel_rfl⟩
instance : ZI Try.prog 18 [.raw (.pointer none)] := ⟨by kernel_rfl⟩
instance : BdI Try.prog 18 [.raw (.pointer none)] [(0, 1)] := ⟨by kernel_rfl⟩
instance : TyI Try.prog 19 1 true := ⟨by kernel_rfl, by kernel_rfl⟩
instance : FldI Try.prog 19 0 0 17 := ⟨by kernel_rfl, by kernel_rfl⟩
instance : ZI Try.prog 19 [.raw (.pointer none)] := ⟨by kernel_rfl⟩
instance : BdI Try.prog 19 [.raw (.pointer none)] [(0, 1)] := ⟨by kernel_rfl⟩
instance : TyI Try.prog 20 1 false := ⟨by kernel_rfl, by kernel_rfl⟩
instance : ZI Try.prog 20 [.raw .nilIface] := ⟨by kernel_rfl⟩
instance : TyI Try.prog 21 1 false := ⟨by kernel_rfl, by kernel_rfl⟩
instance : ZI Try.prog 21 [.int .i32 0] := ⟨by kernel_rfl⟩
instance : UI Try.prog 21 (.int .i32) := ⟨by kernel_rfl⟩
instance : TyI Try.prog 22 1 false := ⟨by kernel_rfl, by kernel_rfl⟩
instance : SlI Try.prog 22 29 1 := ⟨by kernel_rfl, by kernel_rfl⟩
instance : EI Try.prog 22 1 8 [.flt 0] := ⟨by kernel_rfl⟩
instance : ZI Try.prog 22 [.slnil] := ⟨by kernel_rfl⟩
instance : TyI Try.prog 23 5 true := ⟨by kernel_rfl, by kernel_rfl⟩
instance : FldI Try.prog 23 0 0 22 := ⟨by kernel_rfl, by kernel_rfl⟩
instance : FldI Try.prog 23 1 1 3 := ⟨by kernel_rfl, by kernel_rfl⟩
instance : FldI Try.prog 23 2 2 3 := ⟨by kernel_rfl, by kernel_rfl⟩
instance : FldI Try.prog 23 3 3 3 := ⟨by kernel_rfl, by kernel_rfl⟩
instance : FldI Try.prog 23 4 4 3 := ⟨by kernel_rfl, by kernel_rfl⟩
instance : ZI Try.prog 23 [.slnil, .int .i64 0, .int .i64 0, .int .i64 0, .int .i64 0] := ⟨by kernel_rfl⟩
instance : BdI Try.prog 23 [.slnil, .int .i64 0, .int .i64 0, .int .i64 0, .int .i64 0] [(0, 1), (1, 1), (2, 1), (3, 1), (4, 1)] := ⟨by kernel_rfl⟩
instance : TyI Try.prog 24 5 true := ⟨by kernel_rfl, by kernel_rfl⟩
instance : FldI Try.prog 24 0 0 22 := ⟨by kernel_rfl, by kernel_rfl⟩
instance : FldI Try.prog 24 1 1 3 := ⟨by kernel_rfl, by kernel_rfl⟩
instance : FldI Try.prog 24 2 2 3 := ⟨by kernel_rfl, by kernel_rfl⟩
instance : FldI Try.prog 24 3 3 3 := ⟨by kernel_rfl, by kernel_rfl⟩
instance : FldI Try.prog 24 4 4 3 := ⟨by kernel_rfl, by kernel_rfl⟩
instance : ZI Try.prog 24 [.slnil, .int .i64 0, .int .i64 0, .int .i64 0, .int .i64 0] := ⟨by kernel_rfl⟩
instance : BdI Try.prog 24 [.slnil, .int .i64 0, .int .i64 0, .int .i64 0, .int .i64 0] [(0, 1), (1, 1), (2, 1), (3, 1), (4, 1)] := ⟨by kernel_rfl⟩
instance : TyI Try.prog 25 1 false := ⟨by kernel_rfl, by kernel_rfl⟩
instance : ZI Try.prog 25 [.raw .nilFunc] := ⟨by kernel_rfl⟩
instance : TyI Try.prog 26 1 false := ⟨by kernel_rfl, by kernel_rfl⟩
instance : ZI Try.prog 26 [.raw .nilFunc] := ⟨by kernel_rfl⟩
instance : TyI Try.prog 27 1 false := ⟨by kernel_rfl, by kernel_rfl⟩
instance : ZI Try.prog 27 [.raw .nilFunc] := ⟨by kernel_rfl⟩
instance : TyI Try.prog 28 1 false := ⟨by kernel_rfl, by kernel_rfl⟩
instance : ZI Try.prog 28 [.raw .nilFunc] := ⟨by kernel_rfl⟩
instance : TyI Try.prog 29 1 false := ⟨by kernel_rfl, by kernel_rfl⟩
instance : ZI Try.prog 29 [.flt 0] := ⟨by kernel_rfl⟩
instance : UI Try.prog 29 (.float .f64) := ⟨by kernel_rfl⟩
instance : TyI Try.prog 30 1 false := ⟨by kernel_rfl, by kernel_rfl⟩
instance : ZI Try.prog 30 [.raw .nilFunc] := ⟨by kernel_rfl⟩
instance : TyI Try.prog 31 1 false := ⟨by kernel_rfl, by kernel_rfl⟩
instance : ZI Try.prog 31 [.raw .nilFunc] := ⟨by kernel_rfl⟩
instance : TyI Try.prog 32 1 false := ⟨by kernel_rfl, by kernel_rfl⟩
instance : ZI Try.prog 32 [.raw .nilFunc] := ⟨by kernel_rfl⟩
instance : TyI Try.prog 33 1 false := ⟨by kernel_rfl, by kernel_rfl⟩
instance : ZI Try.prog 33 [.int .i64 0] := ⟨by kernel_rfl⟩
instance : UI Try.prog 33 (.int .i64) := ⟨by kernel_rfl⟩
instance : TyI Try.prog 34 1 false := ⟨by kernel_rfl, by kernel_rfl⟩
instance : TyI Try.prog 35 1 false := ⟨by kernel_rfl, by kernel_rfl⟩
instance : ZI Try.prog 35 [.raw .nilFunc] := ⟨by kernel_rfl⟩
instance : TyI Try.prog 36 3 true := ⟨by kernel_rfl, by kernel_rfl⟩
instance : FldI Try.prog 36 0 0 3 := ⟨by kernel_rfl, by kernel_rfl⟩
instance : FldI Try.prog 36 1 1 3 := ⟨by kernel_rfl, by kernel_rfl⟩
instance : FldI Try.prog 36 2 2 22 := ⟨by kernel_rfl, by kernel_rfl⟩
instance : ZI Try.prog 36 [.int .i64 0, .int .i64 0, .slnil] := ⟨by kernel_rfl⟩
instance : BdI Try.prog 36 [.int .i64 0, .int .i64 0, .slnil] [(0, 1), (1, 1), (2, 1)] := ⟨by kernel_rfl⟩
instance : TyI Try.prog 37 3 true := ⟨by kernel_rfl, by kernel_rfl⟩
instance : FldI Try.prog 37 0 0 3 := ⟨by kernel_rfl, by kernel_rfl⟩
instance : FldI Try.prog 37 1 1 3 := ⟨by kernel_rfl, by kernel_rfl⟩
instance : FldI Try.prog 37 2 2 22 := ⟨by kernel_rfl, by kernel_rfl⟩
instance : ZI Try.prog 37 [.int .i64 0, .int .i64 0, .slnil] := ⟨by kernel_rfl⟩
instance : BdI Try.prog 37 [.int .i64 0, .int .i64 0, .slnil] [(0, 1), (1, 1), (2, 1)] := ⟨by kernel_rfl⟩
instance : TyI Try.prog 38 1 false := ⟨by kernel_rfl, by kernel_rfl⟩
instance : ZI Try.prog 38 [.raw .nilFunc] := ⟨by kernel_rfl⟩
instance : TyI Try.prog 39 1 false := ⟨by kernel_rfl, by kernel_rfl⟩
instance : ZI Try.prog 39 [.raw .nilFunc] := ⟨by kernel_rfl⟩
instance : TyI Try.prog 40 1 false := ⟨by kernel_rfl, by kernel_rfl⟩
instance : ZI Try.prog 40 [.raw .nilFunc] := ⟨by kernel_rfl⟩
instance : TyI Try.prog 41 1 false := ⟨by kernel_rfl, by kernel_rfl⟩
instance : ZI Try.prog 41 [.raw .nilFunc] := ⟨by kernel_rfl⟩
instance : TyI Try.prog 42 1 false := ⟨by kernel_rfl, by kernel_rfl⟩
instance : ZI Try.prog 42 [.raw .nilFunc] := ⟨by kernel_rfl⟩
instance : TyI Try.prog 43 1 false := ⟨by kernel_rfl, by kernel_rfl⟩
instance : TyI Try.prog 44 1 false := ⟨by kernel_rfl, by kernel_rfl⟩
instance : ZI Try.prog 44 [.raw .nilFunc] := ⟨by kernel_rfl⟩
instance : TyI Try.prog 45 1 false := ⟨by kernel_rfl, by kernel_rfl⟩
instance : ZI Try.prog 45 [.raw .nilFunc] := ⟨by kernel_rfl⟩
instance : TyI Try.prog 46 1 false := ⟨by kernel_rfl, by kernel_rfl⟩
instance : ZI Try.prog 46 [.raw .nilFunc] := ⟨by kernel_rfl⟩
instance : TyI Try.prog 47 1 false := ⟨by kernel_rfl, by kernel_rfl⟩
instance : SlI Try.prog 47 3 1 := ⟨by kernel_rfl, by kernel_rfl⟩
instance : EI Try.prog 47 1 8 [.int .i64 0] := ⟨by kernel_rfl⟩
instance : ZI Try.prog 47 [.slnil] := ⟨by kernel_rfl⟩
instance : TyI Try.prog 48 6 true := ⟨by kernel_rfl, by kernel_rfl⟩
instance : FldI Try.prog 48 0 0 24 := ⟨by kernel_rfl, by kernel_rfl⟩
instance : FldI Try.prog 48 1 5 47 := ⟨by kernel_rfl, by kernel_rfl⟩
instance : ZI Try.prog 48 [.slnil, .int .i64 0, .int .i64 0, .int .i64 0, .int .i64 0, .slnil] := ⟨by kernel_rfl⟩
instance : BdI Try.prog 48 [.slnil, .int .i64 0, .int .i64 0, .int .i64 0, .int .i64 0, .slnil] [(0, 5), (5, 1)] := ⟨by kernel_rfl⟩
instance : TyI Try.prog 49 6 true := ⟨by kernel_rfl, by kernel_rfl⟩
instance : FldI Try.prog 49 0 0 24 := ⟨by kernel_rfl, by kernel_rfl⟩
instance : FldI Try.prog 49 1 5 47 := ⟨by kernel_rfl, by kernel_rfl⟩
instance : ZI Try.prog 49 [.slnil, .int .i64 0, .int .i64 0, .int .i64 0, .int .i64 0, .slnil] := ⟨by kernel_rfl⟩
instance : BdI Try.prog 49 [.slnil, .int .i64 0, .int .i64 0, .int .i64 0, .int .i64 0, .slnil] [(0, 5), (5, 1)] := ⟨by kernel_rfl⟩
instance : TyI Try.prog 50 1 false := ⟨by kernel_rfl, by kernel_rfl⟩
instance : TyI Try.prog 51 1 false := ⟨by kernel_rfl, by kernel_rfl⟩
instance : ZI Try.prog 51 [.raw .nilFunc] := ⟨by kernel_rfl⟩
instance : TyI Try.prog 52 1 false := ⟨by kernel_rfl, by kernel_rfl⟩
instance : ZI Try.prog 52 [.raw .nilFunc] := ⟨by kernel_rfl⟩
instance : TyI Try.prog 53 1 false := ⟨by kernel_rfl, by kernel_rfl⟩
instance : ZI Try.prog 53 [.raw .nilFunc] := ⟨by kernel_rfl⟩
instance : TyI Try.prog 54 1 false := ⟨by kernel_rfl, by kernel_rfl⟩
instance : ZI Try.prog 54 [.raw .nilFunc] := ⟨by kernel_rfl⟩
instance : TyI Try.prog 55 1 false := ⟨by kernel_rfl, by kernel_rfl⟩
instance : ZI Try.prog 55 [.raw .nilFunc] := ⟨by kernel_rfl⟩
instance : TyI Try.prog 56 1 false := ⟨by kernel_rfl, by kernel_rfl⟩
instance : TyI Try.prog 57 1 false := ⟨by kernel_rfl, by kernel_rfl⟩
instance : ZI Try.prog 57 [.raw .nilFunc] := ⟨by kernel_rfl⟩
instance : TyI Try.prog 58 1 false := ⟨by kernel_rfl, by kernel_rfl⟩
instance : ZI Try.prog 58 [.raw .nilFunc] := ⟨by kernel_rfl⟩
instance : TyI Try.prog 59 1 false := ⟨by kernel_rfl, by kernel_rfl⟩
instance : ZI Try.prog 59 [.raw .nilFunc] := ⟨by kernel_rfl⟩
instance : TyI Try.prog 60 1 false := ⟨by kernel_rfl, by kernel_rfl⟩
instance : ZI Try.prog 60 [.raw .nilFunc] := ⟨by kernel_rfl⟩
instance : TyI Try.prog 61 3 true := ⟨by kernel_rfl, by kernel_rfl⟩
instance : FldI Try.prog 61 0 0 4 := ⟨by kernel_rfl, by kernel_rfl⟩
instance : FldI Try.prog 61 1 1 47 := ⟨by kernel_rfl, by kernel_rfl⟩
instance : FldI Try.prog 61 2 2 3 := ⟨by kernel_rfl, by kernel_rfl⟩
instance : ZI Try.prog 61 [.bool false, .slnil, .int .i64 0] := ⟨by kernel_rfl⟩
instance : BdI Try.prog 61 [.bool false, .slnil, .int .i64 0] [(0, 1), (1, 1), (2, 1)] := ⟨by kernel_rfl⟩
instance : TyI Try.prog 62 3 true := ⟨by kernel_rfl, by kernel_rfl⟩
instance : FldI Try.prog 62 0 0 4 := ⟨by kernel_rfl, by kernel_rfl⟩
instance : FldI Try.prog 62 1 1 47 := ⟨by kernel_rfl, by kernel_rfl⟩
instance : FldI Try.prog 62 2 2 3 := ⟨by kernel_rfl, by kernel_rfl⟩
instance : ZI Try.prog 62 [.bool false, .slnil, .int .i64 0] := ⟨by kernel_rfl⟩
instance : BdI Try.prog 62 [.bool false, .slnil, .int .i64 0] [(0, 1), (1, 1), (2, 1)] := ⟨by kernel_rfl⟩
instance : TyI Try.prog 63 1 false := ⟨by kernel_rfl, by kernel_rfl⟩
instance : ZI Try.prog 63 [.raw .nilFunc] := ⟨by kernel_rfl⟩
instance : TyI Try.prog 64 1 false := ⟨by kernel_rfl, by kernel_rfl⟩
instance : ZI Try.prog 64 [.raw .nilFunc] := ⟨by kernel_rfl⟩
instance : TyI Try.prog 65 1 false := ⟨by kernel_rfl, by kernel_rfl⟩
instance : ZI Try.prog 65 [.raw .nilFunc] := ⟨by kernel_rfl⟩
instance : TyI Try.prog 66 1 false := ⟨by kernel_rfl, by kernel_rfl⟩
instance : ZI Try.prog 66 [.raw .nilFunc] := ⟨by kernel_rfl⟩
instance : TyI Try.prog 67 1 false := ⟨by kernel_rfl, by kernel_rfl⟩
instance : ZI Try.prog 67 [.raw .nilFunc] := ⟨by kernel_rfl⟩
instance : TyI Try.prog 68 1 false := ⟨by kernel_rfl, by kernel_rfl⟩
instance : ZI Try.prog 68 [.raw .nilFunc] := ⟨by kernel_rfl⟩
instance : TyI Try.prog 69 1 false := ⟨by kernel_rfl, by kernel_rfl⟩
instance : TyI Try.prog 70 1 false := ⟨by kernel_rfl, by kernel_rfl⟩
instance : ZI Try.prog 70 [.raw .nilFunc] := ⟨by kernel_rfl⟩
instance : TyI Try.prog 71 1 false := ⟨by kernel_rfl, by kernel_rfl⟩
instance : TyI Try.prog 72 1 false := ⟨by kernel_rfl, by kernel_rfl⟩
instance : ZI Try.prog 72 [.raw .nilFunc] := ⟨by kernel_rfl⟩
instance : TyI Try.prog 73 1 false := ⟨by kernel_rfl, by kernel_rfl⟩
instance : ZI Try.prog 73 [.raw .nilFunc] := ⟨by kernel_rfl⟩
instance : TyI Try.prog 74 1 false := ⟨by kernel_rfl, by kernel_rfl⟩
instance : TyI Try.prog 75 1 false := ⟨by kernel_rfl, by kernel_rfl⟩
instance : ZI Try.prog 75 [.raw .nilFunc] := ⟨by kernel_rfl⟩
instance : TyI Try.prog 76 1 false := ⟨by kernel_rfl, by kernel_rfl⟩
instance : TyI Try.prog 77 1 false := ⟨by kernel_rfl, by kernel_rfl⟩
instance : ZI Try.prog 77 [.raw .nilFunc] := ⟨by kernel_rfl⟩
instance : TyI Try.prog 78 1 false := ⟨by kernel_rfl, by kernel_rfl⟩
instance : ZI Try.prog 78 [.raw .nilFunc] := ⟨by kernel_rfl⟩
instance : TyI Try.prog 79 1 false := ⟨by kernel_rfl, by kernel_rfl⟩
instance : ZI Try.prog 79 [.raw .nilFunc] := ⟨by kernel_rfl⟩
instance : TyI Try.prog 80 1 false := ⟨by kernel_rfl, by kernel_rfl⟩
instance : ZI Try.prog 80 [.raw .nilFunc] := ⟨by kernel_rfl⟩
instance : TyI Try.prog 81 4 true := ⟨by kernel_rfl, by kernel_rfl⟩
instance : FldI Try.prog 81 0 0 22 := ⟨by kernel_rfl, by kernel_rfl⟩
instance : FldI Try.prog 81 1 1 3 := ⟨by kernel_rfl, by kernel_rfl⟩
instance : FldI Try.prog 81 2 2 3 := ⟨by kernel_rfl, by kernel_rfl⟩
instance : FldI Try.prog 81 3 3 3 := ⟨by kernel_rfl, by kernel_rfl⟩
instance : ZI Try.prog 81 [.slnil, .int .i64 0, .int .i64 0, .int .i64 0] := ⟨by kernel_rfl⟩
instance : BdI Try.prog 81 [.slnil, .int .i64 0, .int .i64 0, .int .i64 0] [(0, 1), (1, 1), (2, 1), (3, 1)] := ⟨by kernel_rfl⟩
instance : TyI Try.prog 82 4 true := ⟨by kernel_rfl, by kernel_rfl⟩
instance : FldI Try.prog 82 0 0 22 := ⟨by kernel_rfl, by kernel_rfl⟩
instance : FldI Try.prog 82 1 1 3 := ⟨by kernel_rfl, by kernel_rfl⟩
instance : FldI Try.prog 82 2 2 3 := ⟨by kernel_rfl, by kernel_rfl⟩
instance : FldI Try.prog 82 3 3 3 := ⟨by kernel_rfl, by kernel_rfl⟩
instance : ZI Try.prog 82 [.slnil, .int .i64 0, .int .i64 0, .int .i64 0] := ⟨by kernel_rfl⟩
instance : BdI Try.prog 82 [.slnil, .int .i64 0, .int .i64 0, .int .i64 0] [(0, 1), (1, 1), (2, 1), (3, 1)] := ⟨by kernel_rfl⟩
instance : TyI Try.prog 83 1 false := ⟨by kernel_rfl, by kernel_rfl⟩
instance : ZI Try.prog 83 [.raw .nilFunc] := ⟨by kernel_rfl⟩
instance : TyI Try.prog 84 1 false := ⟨by kernel_rfl, by kernel_rfl⟩
instance : ZI Try.prog 84 [.raw .nilFunc] := ⟨by kernel_rfl⟩
instance : TyI Try.prog 85 1 false := ⟨by kernel_rfl, by kernel_rfl⟩
instance : ZI Try.prog 85 [.raw .nilFunc] := ⟨by kernel_rfl⟩
instance : TyI Try.prog 86 1 false := ⟨by kernel_rfl, by kernel_rfl⟩
instance : TyI Try.prog 87 1 false := ⟨by kernel_rfl, by kernel_rfl⟩
instance : ZI Try.prog 87 [.raw .nilFunc] := ⟨by kernel_rfl⟩
instance : TyI Try.prog 88 1 false := ⟨by kernel_rfl, by kernel_rfl⟩
instance : ZI Try.prog 88 [.raw .nilFunc] := ⟨by kernel_rfl⟩
instance : TyI Try.prog 89 1 false := ⟨by kernel_rfl, by kernel_rfl⟩
instance : TyI Try.prog 90 1 false := ⟨by kernel_rfl, by kernel_rfl⟩
instance : ZI Try.prog 90 [.raw .nilFunc] := ⟨by kernel_rfl⟩
instance : TyI Try.prog 91 1 false := ⟨by kernel_rfl, by kernel_rfl⟩
instance : ZI Try.prog 91 [.raw .nilFunc] := ⟨by kernel_rfl⟩
instance : TyI Try.prog 92 1 false := ⟨by kernel_rfl, by kernel_rfl⟩
instance : ZI Try.prog 92 [.raw .nilFunc] := ⟨by kernel_rfl⟩
instance : TyI Try.prog 93 1 false := ⟨by kernel_rfl, by kernel_rfl⟩
instance : ZI Try.prog 93 [.raw .nilFunc] := ⟨by kernel_rfl⟩
instance : TyI Try.prog 94 1 false := ⟨by kernel_rfl, by kernel_rfl⟩
instance : ZI Try.prog 94 [.raw .nilFunc] := ⟨by kernel_rfl⟩
instance : TyI Try.prog 95 1 false := ⟨by kernel_rfl, by kernel_rfl⟩
instance : SlI Try.prog 95 98 2 := ⟨by kernel_rfl, by kernel_rfl⟩
instance : EI Try.prog 95 2 16 [.int .i64 0, .int .i64 0] := ⟨by kernel_rfl⟩
instance : ZI Try.prog 95 [.slnil] := ⟨by kernel_rfl⟩
instance : TyI Try.prog 96 1 false := ⟨by kernel_rfl, by kernel_rfl⟩
instance : ZI Try.prog 96 [.raw .nilFunc] := ⟨by kernel_rfl⟩
instance : TyI Try.prog 97 1 false := ⟨by kernel_rfl, by kernel_rfl⟩
instance : ZI Try.prog 97 [.raw .nilFunc] := ⟨by kernel_rfl⟩
instance : TyI Try.prog 98 2 true := ⟨by kernel_rfl, by kernel_rfl⟩
instance : ZI Try.prog 98 [.int .i64 0, .int .i64 0] := ⟨by kernel_rfl⟩
instance : TyI Try.prog 99 1 false := ⟨by kernel_rfl, by kernel_rfl⟩
instance : ZI Try.prog 99 [.raw .nilFunc] := ⟨by kernel_rfl⟩
instance : TyI Try.prog 100 1 false := ⟨by kernel_rfl, by kernel_rfl⟩
instance : ZI Try.prog 100 [.raw .nilFunc] := ⟨by kernel_rfl⟩
instance : TyI Try.prog 101 1 false := ⟨by kernel_rfl, by kernel_rfl⟩
instance : TyI Try.prog 102 1 false := ⟨by kernel_rfl, by kernel_rfl⟩
instance : ZI Try.prog 102 [.raw .nilFunc] := ⟨by kernel_rfl⟩
instance : TyI Try.prog 103 1 false := ⟨by kernel_rfl, by kernel_rfl⟩
instance : ZI Try.prog 103 [.raw (.pointer none)] := ⟨by kernel_rfl⟩
instance : PtI Try.prog 103 := ⟨by kernel_rfl⟩
instance : TyI Try.prog 104 1 false := ⟨by kernel_rfl, by kernel_rfl⟩
instance : ZI Try.prog 104 [.raw .nilFunc] := ⟨by kernel_rfl⟩
instance : TyI Try.prog 105 1 false := ⟨by kernel_rfl, by kernel_rfl⟩
instance : ZI Try.prog 105 [.raw .nilFunc] := ⟨by kernel_rfl⟩
instance : TyI Try.prog 106 1 false := ⟨by kernel_rfl, by kernel_rfl⟩
instance : ZI Try.prog 106 [.raw .nilFunc] := ⟨by kernel_rfl⟩
instance : TyI Try.prog 107 1 false := ⟨by kernel_rfl, by kernel_rfl⟩
instance : ZI Try.prog 107 [.raw .nilFunc] := ⟨by kernel_rfl⟩
instance : TyI Try.prog 108 1 false := ⟨by kernel_rfl, by kernel_rfl⟩
instance : ZI Try.prog 108 [.raw .nilFunc] := ⟨by kernel_rfl⟩
instance : TyI Try.prog 109 1 false := ⟨by kernel_rfl, by kernel_rfl⟩
instance : ZI Try.prog 109 [.raw .nilFunc] := ⟨by kernel_rfl⟩
instance : TyI Try.prog 110 1 false := ⟨by kernel_rfl, by kernel_rfl⟩
instance : ZI Try.prog 110 [.raw .nilFunc] := ⟨by kernel_rfl⟩
instance : TyI Try.prog 111 1 false := ⟨by kernel_rfl, by kernel_rfl⟩
instance : ZI Try.prog 111 [.raw .nilFunc] := ⟨by kernel_rfl⟩
instance : TyI Try.prog 112 1 false := ⟨by kernel_rfl, by kernel_rfl⟩
instance : ZI Try.prog 112 [.int .u64 0] := ⟨by kernel_rfl⟩
instance : UI Try.prog 112 (.int .u64) := ⟨by kernel_rfl⟩
instance : TyI Try.prog 113 1 false := ⟨by kernel_rfl, by kernel_rfl⟩
instance : TyI Try.prog 114 1 false := ⟨by kernel_rfl, by kernel_rfl⟩
instance : ZI Try.prog 114 [.raw .nilFunc] := ⟨by kernel_rfl⟩
instance : TyI Try.prog 115 1 false := ⟨by kernel_rfl, by kernel_rfl⟩
instance : ZI Try.prog 115 [.raw .nilFunc] := ⟨by kernel_rfl⟩
instance : TyI Try.prog 116 1 false := ⟨by kernel_rfl, by kernel_rfl⟩
instance : ZI Try.prog 116 [.raw .nilFunc] := ⟨by kernel_rfl⟩
instance : TyI Try.prog 117 1 false := ⟨by kernel_rfl, by kernel_rfl⟩
instance : ZI Try.prog 117 [.raw .nilFunc] := ⟨by kernel_rfl⟩
instance : TyI Try.prog 118 1 false := ⟨by kernel_rfl, by kernel_rfl⟩
instance : TyI Try.prog 119 1 false := ⟨by kernel_rfl, by kernel_rfl⟩
instance : ZI Try.prog 119 [.raw .nilFunc] := ⟨by kernel_rfl⟩
instance : TyI Try.prog 120 1 false := ⟨by kernel_rfl, by kernel_rfl⟩
instance : TyI Try.prog 121 1 false := ⟨by kernel_rfl, by kernel_rfl⟩
instance : ZI Try.prog 121 [.raw .nilFunc] := ⟨by kernel_rfl⟩
instance : TyI Try.prog 122 1 false := ⟨by kernel_rfl, by kernel_rfl⟩
instance : ZI Try.prog 122 [.raw .nilFunc] := ⟨by kernel_rfl⟩
instance : TyI Try.prog 123 1 false := ⟨by kernel_rfl, by kernel_rfl⟩
instance : ZI Try.prog 123 [.raw .nilFunc] := ⟨by kernel_rfl⟩
instance : TyI Try.prog 124 1 false := ⟨by kernel_rfl, by kernel_rfl⟩
instance : ZI Try.prog 124 [.raw .nilFunc] := ⟨by kernel_rfl⟩
instance : TyI Try.prog 125 1 false := ⟨by kernel_rfl, by kernel_rfl⟩
instance : ZI Try.prog 125 [.raw .nilFunc] := ⟨by kernel_rfl⟩
instance : TyI Try.prog 126 1 false := ⟨by kernel_rfl, by kernel_rfl⟩
instance : ZI Try.prog 126 [.raw .nilFunc] := ⟨by kernel_rfl⟩
instance : TyI Try.prog 127 1 false := ⟨by kernel_rfl, by kernel_rfl⟩
instance : ZI Try.prog 127 [.raw .nilFunc] := ⟨by kernel_rfl⟩
instance : TyI Try.prog 128 1 false := ⟨by kernel_rfl, by kernel_rfl⟩
instance : ZI Try.prog 128 [.raw .nilFunc] := ⟨by kernel_rfl⟩
instance : TyI Try.prog 129 11 true := ⟨by kernel_rfl, by kernel_rfl⟩
instance : FldI Try.prog 129 0 0 49 := ⟨by kernel_rfl, by kernel_rfl⟩
instance : FldI Try.prog 129 1 6 24 := ⟨by kernel_rfl, by kernel_rfl⟩
instance : ZI Try.prog 129 [.slnil, .int .i64 0, .int .i64 0, .int .i64 0, .int .i64 0, .slnil, .slnil, .int .i64 0, .int .i64 0, .int .i64 0, .int .i64 0] := ⟨by kernel_rfl⟩
instance : BdI Try.prog 129 [.slnil, .int .i64 0, .int .i64 0, .int .i64 0, .int .i64 0, .slnil, .slnil, .int .i64 0, .int .i64 0, .int .i64 0, .int .i64 0] [(0, 6), (6, 5)] := ⟨by kernel_rfl⟩
instance : TyI Try.prog 130 11 true := ⟨by kernel_rfl, by kernel_rfl⟩
instance : FldI Try.prog 130 0 0 49 := ⟨by kernel_rfl, by kernel_rfl⟩
instance : FldI Try.prog 130 1 6 24 := ⟨by kernel_rfl, by kernel_rfl⟩
instance : ZI Try.prog 130 [.slnil, .int .i64 0, .int .i64 0, .int .i64 0, .int .i64 0, .slnil, .slnil, .int .i64 0, .int .i64 0, .int .i64 0, .int .i64 0] := ⟨by kernel_rfl⟩
instance : BdI Try.prog 130 [.slnil, .int .i64 0, .int .i64 0, .int .i64 0, .int .i64 0, .slnil, .slnil, .int .i64 0, .int .i64 0, .int .i64 0, .int .i64 0] [(0, 6), (6, 5)] := ⟨by kernel_rfl⟩
instance : TyI Try.prog 131 1 false := ⟨by kernel_rfl, by kernel_rfl⟩
instance : TyI Try.prog 132 1 false := ⟨by kernel_rfl, by kernel_rfl⟩
instance : ZI Try.prog 132 [.raw .nilFunc] := ⟨by kernel_rfl⟩
instance : TyI Try.prog 133 1 false := ⟨by kernel_rfl, by kernel_rfl⟩
instance : ZI Try.prog 133 [.raw .nilFunc] := ⟨by kernel_rfl⟩
instance : TyI Try.prog 134 1 false := ⟨by kernel_rfl, by kernel_rfl⟩
instance : ZI Try.prog 134 [.raw .nilFunc] := ⟨by kernel_rfl⟩
instance : TyI Try.prog 135 1 false := ⟨by kernel_rfl, by kernel_rfl⟩
instance : ZI Try.prog 135 [.raw .nilFunc] := ⟨by kernel_rfl⟩
instance : TyI Try.prog 136 1 false := ⟨by kernel_rfl, by kernel_rfl⟩
instance : ZI Try.prog 136 [.raw .nilFunc] := ⟨by kernel_rfl⟩
instance : TyI Try.prog 137 1 false := ⟨by kernel_rfl, by kernel_rfl⟩
instance : ZI Try.prog 137 [.raw .nilFunc] := ⟨by kernel_rfl⟩
instance : TyI Try.prog 138 1 false := ⟨by kernel_rfl, by kernel_rfl⟩
instance : ZI Try.prog 138 [.raw .nilFunc] := ⟨by kernel_rfl⟩
instance : TyI Try.prog 139 1 false := ⟨by kernel_rfl, by kernel_rfl⟩
instance : ZI Try.prog 139 [.raw .nilFunc] := ⟨by kernel_rfl⟩
instance : TyI Try.prog 140 1 false := ⟨by kernel_rfl, by kernel_rfl⟩
instance : ZI Try.prog 140 [.raw .nilFunc] := ⟨by kernel_rfl⟩
instance : TyI Try.prog 141 1 false := ⟨by kernel_rfl, by kernel_rfl⟩
instance : ZI Try.prog 141 [.raw .nilFunc] := ⟨by kernel_rfl⟩
instance : TyI Try.prog 142 1 false := ⟨by kernel_rfl, by kernel_rfl⟩
instance : ZI Try.prog 142 [.raw .nilFunc] := ⟨by kernel_rfl⟩
instance : TyI Try.prog 143 1 false := ⟨by kernel_rfl, by kernel_rfl⟩
instance : ZI Try.prog 143 [.raw .nilFunc] := ⟨by kernel_rfl⟩
instance : TyI Try.prog 144 1 false := ⟨by kernel_rfl, by kernel_rfl⟩
instance : ZI Try.prog 144 [.raw .nilFunc] := ⟨by kernel_rfl⟩
instance : TyI Try.prog 145 1 false := ⟨by kernel_rfl, by kernel_rfl⟩
instance : ZI Try.prog 145 [.raw .nilFunc] := ⟨by kernel_rfl⟩
instance : TyI Try.prog 146 1 false := ⟨by kernel_rfl, by kernel_rfl⟩
instance : ZI Try.prog 146 [.raw .nilFunc] := ⟨by kernel_rfl⟩
instance : TyI Try.prog 147 1 false := ⟨by kernel_rfl, by kernel_rfl⟩
instance : ZI Try.prog 147 [.raw .nilFunc] := ⟨by kernel_rfl⟩
instance : TyI Try.prog 148 1 false := ⟨by kernel_rfl, by kernel_rfl⟩
instance : ZI Try.prog 148 [.int .u64 0] := ⟨by kernel_rfl⟩
instance : UI Try.prog 148 (.int .u64) := ⟨by kernel_rfl⟩
instance : TyI Try.prog 149 1 false := ⟨by kernel_rfl, by kernel_rfl⟩
instance : TyI Try.prog 150 1 false := ⟨by kernel_rfl, by kernel_rfl⟩
instance : ZI Try.prog 150 [.raw .nilFunc] := ⟨by kernel_rfl⟩
instance : TyI Try.prog 151 1 false := ⟨by kernel_rfl, by kernel_rfl⟩
instance : ZI Try.prog 151 [.raw .nilFunc] := ⟨by kernel_rfl⟩
instance : TyI Try.prog 152 1 false := ⟨by kernel_rfl, by kernel_rfl⟩
instance : ZI Try.prog 152 [.raw .nilFunc] := ⟨by kernel_rfl⟩
instance : TyI Try.prog 153 1 false := ⟨by kernel_rfl, by kernel_rfl⟩
instance : ZI Try.prog 153 [.raw .nilFunc] := ⟨by kernel_rfl⟩
instance : TyI Try.prog 154 1 false := ⟨by kernel_rfl, by kernel_rfl⟩
instance : ZI Try.prog 154 [.raw .nilFunc] := ⟨by kernel_rfl⟩
instance : TyI Try.prog 155 1 false := ⟨by kernel_rfl, by kernel_rfl⟩
instance : ZI Try.prog 155 [.raw .nilFunc] := ⟨by kernel_rfl⟩
instance : TyI Try.prog 156 1 false := ⟨by kernel_rfl, by kernel_rfl⟩
instance : ZI Try.prog 156 [.raw .nilFunc] := ⟨by kernel_rfl⟩
instance : TyI Try.prog 157 1 false := ⟨by kernel_rfl, by kernel_rfl⟩
instance : ZI Try.prog 157 [.raw .nilFunc] := ⟨by kernel_rfl⟩
instance : TyI Try.prog 158 1 false := ⟨by kernel_rfl, by kernel_rfl⟩
instance : ZI Try.prog 158 [.raw .nilFunc] := ⟨by kernel_rfl⟩
instance : TyI Try.prog 159 9 true := ⟨by kernel_rfl, by kernel_rfl⟩
instance : FldI Try.prog 159 0 0 24 := ⟨by kernel_rfl, by kernel_rfl⟩
instance : FldI Try.prog 159 1 5 82 := ⟨by kernel_rfl, by kernel_rfl⟩
instance : ZI Try.prog 159 [.slnil, .int .i64 0, .int .i64 0, .int .i64 0, .int .i64 0, .slnil, .int .i64 0, .int .i64 0, .int .i64 0] := ⟨by kernel_rfl⟩
instance : BdI Try.prog 159 [.slnil, .int .i64 0, .int .i64 0, .int .i64 0, .int .i64 0, .slnil, .int .i64 0, .int .i64 0, .int .i64 0] [(0, 5), (5, 4)] := ⟨by kernel_rfl⟩
instance : TyI Try.prog 160 9 true := ⟨by kernel_rfl, by kernel_rfl⟩
instance : FldI Try.prog 160 0 0 24 := ⟨by kernel_rfl, by kernel_rfl⟩
instance : FldI Try.prog 160 1 5 82 := ⟨by kernel_rfl, by kernel_rfl⟩
instance : ZI Try.prog 160 [.slnil, .int .i64 0, .int .i64 0, .int .i64 0, .int .i64 0, .slnil, .int .i64 0, .int .i64 0, .int .i64 0] := ⟨by kernel_rfl⟩
instance : BdI Try.prog 160 [.slnil, .int .i64 0, .int .i64 0, .int .i64 0, .int .i64 0, .slnil, .int .i64 0, .int .i64 0, .int .i64 0] [(0, 5), (5, 4)] := ⟨by kernel_rfl⟩
instance : TyI Try.prog 161 1 false := ⟨by kernel_rfl, by kernel_rfl⟩
instance : ZI Try.prog 161 [.raw .nilFunc] := ⟨by kernel_rfl⟩
instance : TyI Try.prog 162 1 false := ⟨by kernel_rfl, by kernel_rfl⟩
instance : ZI Try.prog 162 [.raw .nilFunc] := ⟨by kernel_rfl⟩
instance : TyI Try.prog 163 1 false := ⟨by kernel_rfl, by kernel_rfl⟩
instance : ZI Try.prog 163 [.raw .nilFunc] := ⟨by kernel_rfl⟩
instance : TyI Try.prog 164 1 false := ⟨by kernel_rfl, by kernel_rfl⟩
instance : ZI Try.prog 164 [.raw .nilFunc] := ⟨by kernel_rfl⟩
instance : TyI Try.prog 165 1 false := ⟨by kernel_rfl, by kernel_rfl⟩
instance : ZI Try.prog 165 [.raw .nilFunc] := ⟨by kernel_rfl⟩
instance : TyI Try.prog 166 1 false := ⟨by kernel_rfl, by kernel_rfl⟩
instance : ZI Try.prog 166 [.raw .nilFunc] := ⟨by kernel_rfl⟩
instance : TyI Try.prog 167 1 false := ⟨by kernel_rfl, by kernel_rfl⟩
instance : ZI Try.prog 167 [.raw .nilFunc] := ⟨by kernel_rfl⟩
instance : TyI Try.prog 168 1 false := ⟨by kernel_rfl, by kernel_rfl⟩
instance : ZI Try.prog 168 [.int .i64 0] := ⟨by kernel_rfl⟩
instance : UI Try.prog 168 (.int .i64) := ⟨by kernel_rfl⟩
instance : TyI Try.prog 169 1 false := ⟨by kernel_rfl, by kernel_rfl⟩
instance : TyI Try.prog 170 1 false := ⟨by kernel_rfl, by kernel_rfl⟩
instance : ZI Try.prog 170 [.raw .nilFunc] := ⟨by kernel_rfl⟩
instance : TyI Try.prog 171 1 false := ⟨by kernel_rfl, by kernel_rfl⟩
instance : ZI Try.prog 171 [.raw .nilFunc] := ⟨by kernel_rfl⟩
instance : TyI Try.prog 172 1 false := ⟨by kernel_rfl, by kernel_rfl⟩
instance : ZI Try.prog 172 [.raw .nilFunc] := ⟨by kernel_rfl⟩
instance : TyI Try.prog 173 1 false := ⟨by kernel_rfl, by kernel_rfl⟩
instance : ZI Try.prog 173 [.raw .nilFunc] := ⟨by kernel_rfl⟩
instance : TyI Try.prog 174 1 false := ⟨by kernel_rfl, by kernel_rfl⟩
instance : ZI Try.prog 174 [.raw .nilFunc] := ⟨by kernel_rfl⟩
instance : TyI Try.prog 175 1 false := ⟨by kernel_rfl, by kernel_rfl⟩
instance : ZI Try.prog 175 [.raw .nilFunc] := ⟨by kernel_rfl⟩
instance : TyI Try.prog 176 1 false := ⟨by kernel_rfl, by kernel_rfl⟩
instance : ZI Try.prog 176 [.int .u32 0] := ⟨by kernel_rfl⟩
instance : UI Try.prog 176 (.int .u32) := ⟨by kernel_rfl⟩
instance : TyI Try.prog 177 1 false := ⟨by kernel_rfl, by kernel_rfl⟩
instance : ZI Try.prog 177 [.raw .nilFunc] := ⟨by kernel_rfl⟩
instance : TyI Try.prog 178 1 false := ⟨by kernel_rfl, by kernel_rfl⟩
instance : ZI Try.prog 178 [.int .u64 0] := ⟨by kernel_rfl⟩
instance : UI Try.prog 178 (.int .u64) := ⟨by kernel_rfl⟩
instance : TyI Try.prog 179 1 false := ⟨by kernel_rfl, by kernel_rfl⟩
instance : ZI Try.prog 179 [.raw .nilFunc] := ⟨by kernel_rfl⟩
instance : TyI Try.prog 180 1 false := ⟨by kernel_rfl, by kernel_rfl⟩
instance : ZI Try.prog 180 [.raw .nilFunc] := ⟨by kernel_rfl⟩
instance : TyI Try.prog 181 1 false := ⟨by kernel_rfl, by kernel_rfl⟩
instance : ZI Try.prog 181 [.raw .nilFunc] := ⟨by kernel_rfl⟩
instance : TyI Try.prog 182 1 false := ⟨by kernel_rfl, by kernel_rfl⟩
instance : ZI Try.prog 182 [.raw (.pointer none)] := ⟨by kernel_rfl⟩
instance : PtI Try.prog 182 := ⟨by kernel_rfl⟩
instance : TyI Try.prog 183 1 false := ⟨by kernel_rfl, by kernel_rfl⟩
instance : ZI Try.prog 183 [.raw .nilFunc] := ⟨by kernel_rfl⟩
instance : TyI Try.prog 184 1 false := ⟨by kernel_rfl, by kernel_rfl⟩
instance : ZI Try.prog 184 [.raw .nilFunc] := ⟨by kernel_rfl⟩
instance : TyI Try.prog 185 1 false := ⟨by kernel_rfl, by kernel_rfl⟩
instance : ZI Try.prog 185 [.raw (.pointer none)] := ⟨by kernel_rfl⟩
instance : PtI Try.prog 185 := ⟨by kernel_rfl⟩
instance : TyI Try.prog 186 1 false := ⟨by kernel_rfl, by kernel_rfl⟩
instance : ZI Try.prog 186 [.raw .nilFunc] := ⟨by kernel_rfl⟩
instance : TyI Try.prog 187 1 false := ⟨by kernel_rfl, by kernel_rfl⟩
instance : ZI Try.prog 187 [.raw .nilFunc] := ⟨by kernel_rfl⟩
instance : TyI Try.prog 188 4 true := ⟨by kernel_rfl, by kernel_rfl⟩
instance : FldI Try.prog 188 0 0 17 := ⟨by kernel_rfl, by kernel_rfl⟩
instance : FldI Try.prog 188 1 1 17 := ⟨by kernel_rfl, by kernel_rfl⟩
instance : FldI Try.prog 188 2 2 17 := ⟨by kernel_rfl, by kernel_rfl⟩
instance : FldI Try.prog 188 3 3 9 := ⟨by kernel_rfl, by kernel_rfl⟩
instance : ZI Try.prog 188 [.raw (.pointer none), .raw (.pointer none), .raw (.pointer none), .str .empty] := ⟨by kernel_rfl⟩
instance : BdI Try.prog 188 [.raw (.pointer none), .raw (.pointer none), .raw (.pointer none), .str .empty] [(0, 1), (1, 1), (2, 1), (3, 1)] := ⟨by kernel_rfl⟩
instance : TyI Try.prog 189 4 true := ⟨by kernel_rfl, by kernel_rfl⟩
instance : FldI Try.prog 189 0 0 17 := ⟨by kernel_rfl, by kernel_rfl⟩
instance : FldI Try.prog 189 1 1 17 := ⟨by kernel_rfl, by kernel_rfl⟩
instance : FldI Try.prog 189 2 2 17 := ⟨by kernel_rfl, by kernel_rfl⟩
instance : FldI Try.prog 189 3 3 9 := ⟨by kernel_rfl, by kernel_rfl⟩
instance : ZI Try.prog 189 [.raw (.pointer none), .raw (.pointer none), .raw (.pointer none), .str .empty] := ⟨by kernel_rfl⟩
instance : BdI Try.prog 189 [.raw (.pointer none), .raw (.pointer none), .raw (.pointer none), .str .empty] [(0, 1), (1, 1), (2, 1), (3, 1)] := ⟨by kernel_rfl⟩
instance : TyI Try.prog 190 0 true := ⟨by kernel_rfl, by kernel_rfl⟩
instance : ZI Try.prog 190 [] := ⟨by kernel_rfl⟩
instance : TyI Try.prog 191 0 true := ⟨by kernel_rfl, by kernel_rfl⟩
instance : ZI Try.prog 191 [] := ⟨by kernel_rfl⟩
instance : BdI Try.prog 191 [] [(0, 0)] := ⟨by kernel_rfl⟩
instance : TyI Try.prog 192 0 true := ⟨by kernel_rfl, by kernel_rfl⟩
instance : ZI Try.prog 192 [] := ⟨by kernel_rfl⟩
instance : BdI Try.prog 192 [] [(0, 0)] := ⟨by kernel_rfl⟩
instance : TyI Try.prog 193 1 false := ⟨by kernel_rfl, by kernel_rfl⟩
instance : ZI Try.prog 193 [.int .u8 0] := ⟨by kernel_rfl⟩
instance : UI Try.prog 193 (.int .u8) := ⟨by kernel_rfl⟩
instance : TyI Try.prog 194 1 false := ⟨by kernel_rfl, by kernel_rfl⟩
instance : ZI Try.prog 194 [.int .u8 0] := ⟨by kernel_rfl⟩
instance : UI Try.prog 194 (.int .u8) := ⟨by kernel_rfl⟩
instance : TyI Try.prog 195 1 false := ⟨by kernel_rfl, by kernel_rfl⟩
instance : ZI Try.prog 195 [.raw .nilFunc] := ⟨by kernel_rfl⟩
instance : TyI Try.prog 196 1 false := ⟨by kernel_rfl, by kernel_rfl⟩
instance : ZI Try.prog 196 [.raw (.pointer none)] := ⟨by kernel_rfl⟩
instance : PtI Try.prog 196 := ⟨by kernel_rfl⟩
instance : TyI Try.prog 197 1 false := ⟨by kernel_rfl, by kernel_rfl⟩
instance : ZI Try.prog 197 [.int .i32 0] := ⟨by kernel_rfl⟩
instance : UI Try.prog 197 (.int .i32) := ⟨by kernel_rfl⟩
instance : TyI Try.prog 198 1 false := ⟨by kernel_rfl, by kernel_rfl⟩
instance : ZI Try.prog 198 [.int .i32 0] := ⟨by kernel_rfl⟩
instance : UI Try.prog 198 (.int .i32) := ⟨by kernel_rfl⟩
instance : TyI Try.prog 199 11 true := ⟨by kernel_rfl, by kernel_rfl⟩
instance : FldI Try.prog 199 0 0 12 := ⟨by kernel_rfl, by kernel_rfl⟩
instance : FldI Try.prog 199 1 1 12 := ⟨by kernel_rfl, by kernel_rfl⟩
instance : FldI Try.prog 199 2 2 176 := ⟨by kernel_rfl, by kernel_rfl⟩
instance : FldI Try.prog 199 3 3 193 := ⟨by kernel_rfl, by kernel_rfl⟩
instance : FldI Try.prog 199 4 4 5 := ⟨by kernel_rfl, by kernel_rfl⟩
instance : FldI Try.prog 199 5 5 5 := ⟨by kernel_rfl, by kernel_rfl⟩
instance : FldI Try.prog 199 6 6 194 := ⟨by kernel_rfl, by kernel_rfl⟩
instance : FldI Try.prog 199 7 7 195 := ⟨by kernel_rfl, by kernel_rfl⟩
instance : FldI Try.prog 199 8 8 196 := ⟨by kernel_rfl, by kernel_rfl⟩
instance : FldI Try.prog 199 9 9 197 := ⟨by kernel_rfl, by kernel_rfl⟩
instance : FldI Try.prog 199 10 10 198 := ⟨by kernel_rfl, by kernel_rfl⟩
instance : ZI Try.prog 199 [.int .u64 0, .int .u64 0, .int .u32 0, .int .u8 0, .int .u8 0, .int .u8 0, .int .u8 0, .raw .nilFunc, .raw (.pointer none), .int .i32 0, .int .i32 0] := ⟨by kernel_rfl⟩
instance : BdI Try.prog 199 [.int .u64 0, .int .u64 0, .int .u32 0, .int .u8 0, .int .u8 0, .int .u8 0, .int .u8 0, .raw .nilFunc, .raw (.pointer none), .int .i32 0, .int .i32 0] [(0, 1), (1, 1), (2, 1), (3, 1), (4, 1), (5, 1), (6, 1), (7, 1), (8, 1), (9, 1), (10, 1)] := ⟨by kernel_rfl⟩
instance : TyI Try.prog 200 11 true := ⟨by kernel_rfl, by kernel_rfl⟩
instance : FldI Try.prog 200 0 0 12 := ⟨by kernel_rfl, by kernel_rfl⟩
instance : FldI Try.prog 200 1 1 12 := ⟨by kernel_rfl, by kernel_rfl⟩
instance : FldI Try.prog 200 2 2 176 := ⟨by kernel_rfl, by kernel_rfl⟩
instance : FldI Try.prog 200 3 3 193 := ⟨by kernel_rfl, by kernel_rfl⟩
instance : FldI Try.prog 200 4 4 5 := ⟨by kernel_rfl, by kernel_rfl⟩
instance : FldI Try.prog 200 5 5 5 := ⟨by kernel_rfl, by kernel_rfl⟩
instance : FldI Try.prog 200 6 6 194 := ⟨by kernel_rfl, by kernel_rfl⟩
instance : FldI Try.prog 200 7 7 195 := ⟨by kernel_rfl, by kernel_rfl⟩
instance : FldI Try.prog 200 8 8 196 := ⟨by kernel_rfl, by kernel_rfl⟩
instance : FldI Try.prog 200 9 9 197 := ⟨by kernel_rfl, by kernel_rfl⟩
instance : FldI Try.prog 200 10 10 198 := ⟨by kernel_rfl, by kernel_rfl⟩
instance : ZI Try.prog 200 [.int .u64 0, .int .u64 0, .int .u32 0, .int .u8 0, .int .u8 0, .int .u8 0, .int .u8 0, .raw .nilFunc, .raw (.pointer none), .int .i32 0, .int .i32 0] := ⟨by kernel_rfl⟩
instance : BdI Try.prog 200 [.int .u64 0, .int .u64 0, .int .u32 0, .int .u8 0, .int .u8 0, .int .u8 0, .int .u8 0, .raw .nilFunc, .raw (.pointer none), .int .i32 0, .int .i32 0] [(0, 1), (1, 1), (2, 1), (3, 1), (4, 1), (5, 1), (6, 1), (7, 1), (8, 1), (9, 1), (10, 1)] := ⟨by kernel_rfl⟩
instance : TyI Try.prog 201 1 false := ⟨by kernel_rfl, by kernel_rfl⟩
instance : ZI Try.prog 201 [.raw .nilFunc] := ⟨by kernel_rfl⟩
instance : TyI Try.prog 202 1 false := ⟨by kernel_rfl, by kernel_rfl⟩
instance : ZI Try.prog 202 [.raw (.pointer none)] := ⟨by kernel_rfl⟩
theorem fol : Try.prog.follows .mixedOrders = true := by kernel_rfl
theorem dOk {esc : Bool} {n : Nat} {fz : List Nat} (C : Cx) (h1 : C.P = Try.prog) (h2 : C.cfg = ⟨esc, n, fz⟩) : DrawOk C (drawX Try.prog ⟨esc, n, fz⟩) := by
  have := drawOk (C := C) (by rw [h1]; exact fol)
  rw [h1, h2] at this; exact this
end Go.Sx

set_option linter.unusedVariables false
set_option linter.unusedSimpArgs false
namespace Go.Sx
/-! ### a matrix within a list, written -/
def loc (off ld : Int) (r c p : Nat) : Option (Nat × Nat) :=
  if 0 ≤ (p : Int) - off ∧ (((p : Int) - off) % ld).toNat < r ∧ (((p : Int) - off) / ld).toNat < c then some ((((p : Int) - off) % ld).toNat, (((p : Int) - off) / ld).toNat) else none
def setM (L : List Nat) (off ld : Int) (r c : Nat) (g : Nat → Nat → Nat) : List Nat :=
  rml (fun p => match loc off ld r c p with | some q => g q.1 q.2 | none => L.getD p 0) L.length
@[simp] theorem setM_len (L : List Nat) (off ld : Int) (r c : Nat) (g : Nat → Nat → Nat) : (setM L off ld r c g).length = L.length := by simp [setM]
def pos (off ld : Int) (i j : Nat) : Nat := (off + (i : Int) + (j : Int) * ld).toNat
section
variable {off ld : Int} {r c n : Nat}
end
end Go.Sx

set_option linter.unusedVariables false
set_option linter.unusedSimpArgs false
namespace Go.Sx
section
variable {P : Program} {cfg : Cfg} {e : List (Nat × EV)} {L : List (Nat × List AV)} {H N : List (List AV)} {K : St → Prop}
variable {ty : TypeId} {pos : String} {aft : Array Edge} {gd : Option (Nat × Bool)} {dd : Nat}
/-! ### one block of old that is written over and over: the blocks are 'H.set b ..' -/
theorem hb_set {b : Nat} {cs : List AV} (h : b < H.length) : (H.set b cs)[b]? = some cs := by simp [h]
theorem FL.set {b g q : Nat} {X : List Nat} (hb : b < H.length) (hg : g = X.length) (hq : q = X.length) : FL (H.set b (fl X) ++ N) (.slm b g 0 q 1) X :=
  (FL.old (hb_set hb) hg hq).app N
end
/-- two rows, swapped -/
def swpG (g : Nat → Nat → Nat) (i k : Nat) : Nat → Nat → Nat := fun i' j => if i' = i then g k j else if i' = k then g i j else g i' j
/-- the place of the greatest number without its sign, among the first -/
def moN (x : List Nat) : Nat → Nat
  | 0 => 0
  | k + 1 => if k = 0 then 0 else if flt (absF (x.getD (moN x k) 0)) (absF (x.getD k 0)) then k else moN x k
end Go.Sx

set_option linter.unusedVariables false
set_option linter.unusedSimpArgs false
namespace Go.Sx
/-! ### the factors, step by step -/
def colK (g : Nat → Nat → Nat) (k n : Nat) : List Nat := rml (fun i => g (k + i) k) (n - k)
@[simp] theorem colK_len (g : Nat → Nat → Nat) (k n : Nat) : (colK g k n).length = n - k := by simp [colK]
def pvK (g : Nat → Nat → Nat) (k n : Nat) : Nat := k + moN (colK g k n) (n - k)
def swK (g : Nat → Nat → Nat) (k n : Nat) : Nat → Nat → Nat := swpG g k (pvK g k n)
def divG (g : Nat → Nat → Nat) (k : Nat) : Nat → Nat → Nat := fun i j => if k < i ∧ j = k then fdiv (g i k) (g k k) else g i j
def subG (g : Nat → Nat → Nat) (k : Nat) : Nat → Nat → Nat := fun i j => if k < i ∧ k < j then fsub (g i j) (fmul (g i k) (g k j)) else g i j
def elG (g : Nat → Nat → Nat) (k : Nat) : Nat → Nat → Nat := subG (divG g k) k
def stG (g : Nat → Nat → Nat) (n : Nat) : Nat → Nat → Nat → Nat
  | 0 => g
  | k + 1 => elG (swK (stG g n k) k n) k
def pvL (g : Nat → Nat → Nat) (n k : Nat) : List Int := (List.range k).map fun t => (pvK (stG g n t) t n : Int)
@[simp] theorem pvL_len (g : Nat → Nat → Nat) (n k : Nat) : (pvL g n k).length = k := by simp [pvL]
end Go.Sx

set_option linter.unusedVariables false
set_option linter.unusedSimpArgs false
namespace Go.Sx
section
variable {P : Program} {cfg : Cfg} {e : List (Nat × EV)} {L : List (Nat × List AV)} {H N : List (List AV)} {K : St → Prop}
variable {ty : TypeId} {pos : String} {aft : Array Edge} {gd : Option (Nat × Bool)} {dd : Nat}
end
theorem v_to {e : List (Nat × EV)} {L : List (Nat × List AV)} {H : List (List AV)} {K : St → Prop} {dd : Nat} (n' : Int) {n : Int} (hw : -9223372036854775808 ≤ n ∧ n ≤ 9223372036854775807) (hn : n = n') (h : K ⟨(dd, .val (.int .i64 n')) :: e, L, H⟩) : valK dd K ⟨e, L, H⟩ (some (True, .int .i64 (IntKind.i64.wrap n))) := by
  subst hn; exact v_w hw h
/-! ### a list that grows while others, too, have become -/
end Go.Sx

set_option linter.unusedVariables false
set_option linter.unusedSimpArgs false
namespace Go.Sx
/-! ### a square in a list of its own, column by column -/
/-! ### what the loop leaves behind -/
def lcK (g : Nat → Nat → Nat) (k n : Nat) : List Nat := rml (fun i => g (k + 1 + i) k) (n - (k + 1))
def urK (g : Nat → Nat → Nat) (k t : Nat) : List Nat := rml (fun j => g k (k + 1 + j)) t
@[simp] theorem lcK_len (g : Nat → Nat → Nat) (k n : Nat) : (lcK g k n).length = n - (k + 1) := by simp [lcK]
@[simp] theorem urK_len (g : Nat → Nat → Nat) (k t : Nat) : (urK g k t).length = t := by simp [urK]
end Go.Sx

set_option linter.unusedVariables false
set_option linter.unusedSimpArgs false
namespace Go.Sx
/-! ### pivots -/
def pivP (p : List Int) : Prop := ∀ k, k < p.length → ((k : Int) ≤ p.getD k 0 ∧ p.getD k 0 < p.length)
instance (p : List Int) : Decidable (pivP p) := by unfold pivP; infer_instance
end Go.Sx

set_option linter.unusedVariables false
set_option linter.unusedSimpArgs false
namespace Go.Sx
/-! ### triangular systems, number by number -/
/-- lower, column by column -/
def lo1 (a : Nat → Nat → Nat) (f : Nat → Nat) : Nat → Nat → Nat
  | 0 => f
  | j + 1 => fun i => if j < i then fsub (lo1 a f j i) (fmul (a i j) (lo1 a f j j)) else lo1 a f j i
/-! ### a vector within a list -/
def setV (l : List Nat) (off inc : Int) (n : Nat) (f : Nat → Nat) : List Nat := setM l off inc 1 n (fun _ j => f j)
@[simp] theorem setV_len (l : List Nat) (off inc : Int) (n : Nat) (f : Nat → Nat) : (setV l off inc n f).length = l.length := by simp [setV]
section
variable {l : List Nat} {off inc : Int} {n : Nat} (hR : RightP l.length off n inc)
end
end Go.Sx

set_option linter.unusedVariables false
set_option linter.unusedSimpArgs false
namespace Go.Sx
/-- have two stretches a place in common? -/
def SpansP (a b c d : Int) : Prop := a ≤ b ∧ c ≤ d ∧ a ≤ d ∧ c ≤ b
instance (a b c d : Int) : Decidable (SpansP a b c d) := by unfold SpansP; infer_instance
end Go.Sx

set_option linter.unusedVariables false
set_option linter.unusedSimpArgs false
namespace Go.Sx
/-! ### numbers that are cut -/
/-- strictly rising lists with the same members are one -/
theorem sorted_ext : ∀ {l m : List Int}, l.Pairwise (· < ·) → m.Pairwise (· < ·) → (∀ x, x ∈ l ↔ x ∈ m) → l = m
  | [], [], _, _, _ => rfl
  | [], y :: m, _, _, h => by have := (h y).2 (by simp); simp at this
  | x :: l, [], _, _, h => by have := (h x).1 (by simp); simp at this
  | x :: l, y :: m, hl, hm, h => by
    have hl' := List.pairwise_cons.1 hl
    have hm' := List.pairwise_cons.1 hm
    have e : x = y := by
      have h1 := (h x).1 (by simp)
      have h2 := (h y).2 (by simp)
      rcases List.mem_cons.1 h1 with h1 | h1
      · exact h1
      · rcases List.mem_cons.1 h2 with h2 | h2
        · exact h2.symm
        · have := hm'.1 x h1; have := hl'.1 y h2; omega
    subst e
    congr 1
    refine sorted_ext hl'.2 hm'.2 fun z => ⟨fun hz => ?_, fun hz => ?_⟩
    · rcases List.mem_cons.1 ((h z).1 (List.mem_cons_of_mem _ hz)) with rfl | h3
      · have := hl'.1 z hz; omega
      · exact h3
    · rcases List.mem_cons.1 ((h z).2 (List.mem_cons_of_mem _ hz)) with rfl | h3
      · have := hm'.1 z hz; omega
      · exact h3
def srt (l : List Int) : List Int := l.mergeSort fun x y => decide (x ≤ y)
theorem srt_len (l : List Int) : (srt l).length = l.length := List.length_mergeSort _
theorem srt_mem {l : List Int} {x : Int} : x ∈ srt l ↔ x ∈ l := List.mem_mergeSort
theorem srt_sorted (l : List Int) : (srt l).Pairwise (· ≤ ·) := by
  have h := List.pairwise_mergeSort (le := fun (x y : Int) => decide (x ≤ y)) (fun a b c h1 h2 => by simp at *; omega) (fun a b => by simp; omega) l
  exact h.imp (by intro a b hab; simpa using hab)
/-- what Compact leaves of a rising list -/
theorem compactUpTo_spec (s : List Int) (hs : s.Pairwise (· ≤ ·)) : ∀ m, m ≤ s.length →
    (Lib.compactUpTo s.toArray m).Pairwise (· < ·) ∧ (∀ x, x ∈ Lib.compactUpTo s.toArray m ↔ ∃ j, j < m ∧ s.getD j 0 = x) ∧ (Lib.compactUpTo s.toArray m).length ≤ m
  | 0, _ => by simp [Lib.compactUpTo]
  | m + 1, hm => by
    obtain ⟨h1, h2, h3⟩ := compactUpTo_spec s hs m (by omega)
    have hg : ∀ j, j < s.length → s.toArray[j]! = s.getD j 0 := fun j hj => by simp [List.getD, hj, getElem!_def]
    have hle : ∀ i j, i ≤ j → j < s.length → s.getD i 0 ≤ s.getD j 0 := by
      intro i j hij hj
      rcases Nat.eq_or_lt_of_le hij with rfl | hlt
      · exact Int.le_refl _
      · have := List.pairwise_iff_getElem.1 hs i j (by omega) hj hlt
        simpa [List.getD, hj, show i < s.length by omega] using this
    rw [Lib.compactUpTo_succ]
    by_cases hk : Lib.keeps s.toArray m = true
    · rw [if_pos hk, hg m (by omega)]
      refine ⟨?_, ?_, by simp; omega⟩
      · rw [List.pairwise_append]
        refine ⟨h1, by simp, fun x hx y hy => ?_⟩
        simp only [List.mem_singleton] at hy; subst hy
        obtain ⟨j, hj, rfl⟩ := (h2 x).1 hx
        have hm0 : m ≠ 0 := by omega
        have h4 : s.getD m 0 ≠ s.getD (m - 1) 0 := by
          have : m = 0 ∨ s.toArray[m]! ≠ s.toArray[m - 1]! := by simpa [Lib.keeps] using hk
          rcases this with h | h
          · exact absurd h hm0
          · rwa [hg m (by omega), hg (m - 1) (by omega)] at h
        have h5 := hle j (m - 1) (by omega) (by omega)
        have h6 := hle (m - 1) m (by omega) (by omega)
        omega
      · intro x
        simp only [List.mem_append, List.mem_singleton]
        constructor
        · rintro (hx | rfl)
          · obtain ⟨j, hj, e⟩ := (h2 x).1 hx; exact ⟨j, by omega, e⟩
          · exact ⟨m, by omega, rfl⟩
        · rintro ⟨j, hj, rfl⟩
          by_cases e : j = m
          · subst e; exact .inr rfl
          · exact .inl ((h2 _).2 ⟨j, by omega, rfl⟩)
    · rw [if_neg hk, List.append_nil]
      refine ⟨h1, fun x => ?_, by omega⟩
      rw [h2 x]
      have h4 : ¬ (m = 0) ∧ s.getD m 0 = s.getD (m - 1) 0 := by
        have : ¬ (m = 0 ∨ s.toArray[m]! ≠ s.toArray[m - 1]!) := by simpa [Lib.keeps] using hk
        refine ⟨fun h => this (.inl h), ?_⟩
        have h5 : s.toArray[m]! = s.toArray[m - 1]! := Decidable.not_not.1 fun h => this (.inr h)
        rwa [hg m (by omega), hg (m - 1) (by omega)] at h5
      constructor
      · rintro ⟨j, hj, e⟩; exact ⟨j, by omega, e⟩
      · rintro ⟨j, hj, rfl⟩
        by_cases e : j = m
        · subst e; exact ⟨j - 1, by omega, h4.2.symm⟩
        · exact ⟨j, by omega, rfl⟩
theorem compact_spec (s : List Int) (hs : s.Pairwise (· ≤ ·)) : (Lib.compact s).Pairwise (· < ·) ∧ (∀ x, x ∈ Lib.compact s ↔ x ∈ s) ∧ (Lib.compact s).length ≤ s.length := by
  obtain ⟨h1, h2, h3⟩ := compactUpTo_spec s hs s.length (Nat.le_refl _)
  refine ⟨h1, fun x => ?_, h3⟩
  show x ∈ Lib.compactUpTo s.toArray s.length ↔ _
  rw [h2 x, List.mem_iff_getElem]
  constructor
  · rintro ⟨j, hj, rfl⟩; exact ⟨j, hj, by simp [List.getD, hj]⟩
  · rintro ⟨j, hj, rfl⟩; exact ⟨j, hj, by simp [List.getD, hj]⟩
theorem compact_len_le (s : List Int) : (Lib.compact s).length ≤ s.length := by
  have : ∀ m, (Lib.compactUpTo s.toArray m).length ≤ m := by
    intro m
    unfold Lib.compactUpTo
    rw [List.length_map]
    exact Nat.le_trans (List.length_filter_le _ _) (by simp)
  exact this _
/-- the cuts, as they are gathered -/
def cI (n m k : Nat) : List Int := (n : Int) :: (List.range k).map fun i => ((i * m : Nat) : Int)
def okB (n : Nat) (x : Int) : Bool := decide (0 ≤ x ∧ x ≤ n)
def cM (n m K : Nat) (more : List Int) (j : Nat) : List Int := cI n m K ++ (more.take j).filter (okB n)
/-- is there a cut at this place? -/
def cutP (n m : Nat) (more : List Int) (k : Int) : Prop := k = n ∨ (∃ i : Nat, i * m < n ∧ k = ((i * m : Nat) : Int)) ∨ (k ∈ more ∧ 0 ≤ k ∧ k ≤ n)
theorem cM_mem {n m : Nat} (hm : 0 < m) (more : List Int) (x : Int) : x ∈ cM n m ((n + m - 1) / m) more more.length ↔ cutP n m more x := by
  unfold cM cI cutP okB
  rw [List.take_length]
  simp only [List.mem_append, List.mem_cons, List.mem_map, List.mem_range, List.mem_filter, decide_eq_true_eq]
  have hK : ∀ i, i < (n + m - 1) / m ↔ i * m < n := by
    intro i
    rw [Nat.lt_iff_add_one_le, Nat.le_div_iff_mul_le hm, Nat.add_mul]
    omega
  constructor
  · rintro ((rfl | ⟨i, hi, rfl⟩) | h)
    · exact .inl rfl
    · exact .inr (.inl ⟨i, (hK i).1 hi, rfl⟩)
    · exact .inr (.inr h)
  · rintro (rfl | ⟨i, hi, rfl⟩ | h)
    · exact .inl (.inl rfl)
    · exact .inl (.inr ⟨i, (hK i).2 hi, rfl⟩)
    · exact .inr h
def dL (n m : Nat) (more : List Int) : List Int := Lib.compact (srt (cM n m ((n + m - 1) / m) more more.length))
/-- pairs of neighbours: from, how many -/
def prsL : List Int → List (Int × Int)
  | [] => []
  | [_] => []
  | x :: y :: l => (x, y - x) :: prsL (y :: l)
theorem prsL_snoc : ∀ (l : List Int) (x y : Int), prsL (l ++ [x, y]) = prsL (l ++ [x]) ++ [(x, y - x)]
  | [], x, y => rfl
  | [a], x, y => rfl
  | a :: b :: l, x, y => by
    have := prsL_snoc (b :: l) x y
    simp only [List.cons_append, prsL, this] at *
theorem prsL_len : ∀ l : List Int, (prsL l).length = l.length - 1
  | [] => rfl
  | [_] => rfl
  | x :: y :: l => by
    have := prsL_len (y :: l)
    simp only [prsL, List.length_cons] at *; omega
theorem prsL_get : ∀ (l : List Int) (j : Nat), j + 1 < l.length → (prsL l)[j]? = some (l.getD j 0, l.getD (j + 1) 0 - l.getD j 0)
  | [], j, h => by simp at h
  | [_], j, h => by simp at h
  | x :: y :: l, 0, h => by simp [prsL, List.getD]
  | x :: y :: l, j + 1, h => by
    have := prsL_get (y :: l) j (by simp at h ⊢; omega)
    simp only [prsL, List.getElem?_cons_succ, this, List.getD_cons_succ]
open Classical in
/-- the document's way: place by place -/
noncomputable def refD (S : Int → Prop) : Nat → List Int
  | 0 => [0]
  | k + 1 => if S ((k + 1 : Nat) : Int) then refD S k ++ [((k + 1 : Nat) : Int)] else refD S k
theorem refD_spec (S : Int → Prop) (h0 : S 0) : ∀ k, (refD S k).Pairwise (· < ·) ∧ (∀ x, x ∈ refD S k ↔ (0 ≤ x ∧ x ≤ k ∧ S x)) ∧ refD S k ≠ []
  | 0 => by
    refine ⟨by simp [refD], fun x => ?_, by simp [refD]⟩
    simp only [refD, List.mem_singleton]
    constructor
    · rintro rfl; exact ⟨by omega, by omega, h0⟩
    · rintro ⟨h1, h2, _⟩; omega
  | k + 1 => by
    obtain ⟨h1, h2, h3⟩ := refD_spec S h0 k
    unfold refD
    split
    · rename_i hS
      refine ⟨?_, fun x => ?_, by simp⟩
      · rw [List.pairwise_append]
        refine ⟨h1, by simp, fun x hx y hy => ?_⟩
        simp only [List.mem_singleton] at hy; subst hy
        have := (h2 x).1 hx; omega
      · simp only [List.mem_append, List.mem_singleton, h2 x]
        constructor
        · rintro (⟨a, b, c⟩ | rfl)
          · exact ⟨a, by omega, c⟩
          · exact ⟨by omega, by omega, hS⟩
        · rintro ⟨a, b, c⟩
          by_cases e : x = ((k + 1 : Nat) : Int)
          · exact .inr e
          · exact .inl ⟨a, by omega, c⟩
    · rename_i hS
      refine ⟨h1, fun x => ?_, h3⟩
      rw [h2 x]
      constructor
      · rintro ⟨a, b, c⟩; exact ⟨a, by omega, c⟩
      · rintro ⟨a, b, c⟩
        by_cases e : x = ((k + 1 : Nat) : Int)
        · subst e; exact absurd c hS
        · exact ⟨a, by omega, c⟩
theorem refD_eq {n m : Nat} (hm : 0 < m) (hn : 0 < n) (more : List Int) : refD (cutP n m more) n = dL n m more := by
  have h0 : cutP n m more 0 := .inr (.inl ⟨0, by omega, by simp⟩)
  obtain ⟨h1, h2, h3⟩ := refD_spec _ h0 n
  obtain ⟨h4, h5, h6⟩ := compact_spec _ (srt_sorted (cM n m ((n + m - 1) / m) more more.length))
  refine sorted_ext h1 h4 fun x => ?_
  unfold dL
  rw [h2 x, h5 x, srt_mem, cM_mem hm]
  constructor
  · exact fun h => h.2.2
  · intro h
    rcases h with rfl | ⟨i, hi, rfl⟩ | ⟨h, h', h''⟩
    · exact ⟨by omega, by omega, .inl rfl⟩
    · exact ⟨by omega, by omega, .inr (.inl ⟨i, hi, rfl⟩)⟩
    · exact ⟨h', h'', .inr (.inr ⟨h, h', h''⟩)⟩
end Go.Sx
namespace Go.Sx
/-! ### facts that the walks want -/
@[simp] theorem cI_len (n m k : Nat) : (cI n m k).length = k + 1 := by simp [cI]
theorem cI_snoc (n m k : Nat) : il (cI n m k) ++ [.int .i64 ((k * m : Nat) : Int)] = il (cI n m (k + 1)) := by
  simp [il, cI, List.range_succ]
theorem cM_zero (n m K : Nat) (more : List Int) : cM n m K more 0 = cI n m K := by simp [cM]
theorem cM_ok {n m K : Nat} {more : List Int} {j : Nat} (hj : j < more.length) (h : 0 ≤ more.getD j 0 ∧ more.getD j 0 ≤ n) : cM n m K more (j + 1) = cM n m K more j ++ [more.getD j 0] := by
  have e : more.getD j 0 = more[j] := by simp [List.getD, hj]
  rw [e] at h ⊢
  simp only [cM, List.take_add_one, List.getElem?_eq_getElem hj, Option.toList_some, List.filter_append, List.append_assoc]
  have : okB n more[j] = true := decide_eq_true h
  simp [this]
theorem cM_no {n m K : Nat} {more : List Int} {j : Nat} (hj : j < more.length) (h : ¬ (0 ≤ more.getD j 0 ∧ more.getD j 0 ≤ n)) : cM n m K more (j + 1) = cM n m K more j := by
  have e : more.getD j 0 = more[j] := by simp [List.getD, hj]
  rw [e] at h
  simp only [cM, List.take_add_one, List.getElem?_eq_getElem hj, Option.toList_some, List.filter_append]
  have : okB n more[j] = false := decide_eq_false h
  simp [this]
theorem cM_len_le (n m K : Nat) (more : List Int) (j : Nat) : (cM n m K more j).length ≤ K + 1 + more.length := by
  simp only [cM, List.length_append, cI_len]
  have h1 := List.length_filter_le (okB n) (more.take j)
  have h2 : (more.take j).length ≤ more.length := by simp; omega
  omega
theorem K_le {n m : Nat} (hm : 0 < m) : (n + m - 1) / m ≤ n := by
  rcases Nat.eq_zero_or_pos n with rfl | hn
  · rw [Nat.div_eq_of_lt (by omega)]; omega
  · refine Nat.div_le_of_le_mul ?_
    have h1 : n - 1 ≤ m * (n - 1) := Nat.le_mul_of_pos_left _ hm
    have h2 : m * n = m * (n - 1) + m := by rw [← Nat.mul_succ]; congr 1; omega
    omega
theorem K_lt {n m i : Nat} (hm : 0 < m) : i < (n + m - 1) / m ↔ i * m < n := by
  rw [Nat.lt_iff_add_one_le, Nat.le_div_iff_mul_le hm, Nat.add_mul]
  omega
theorem dL_facts {n m : Nat} (hm : 0 < m) (hn : 0 < n) (more : List Int) : 2 ≤ (dL n m more).length ∧ (dL n m more).length ≤ (cM n m ((n + m - 1) / m) more more.length).length ∧
    (∀ j, j < (dL n m more).length → 0 ≤ (dL n m more).getD j 0 ∧ (dL n m more).getD j 0 ≤ n) ∧ (dL n m more).Pairwise (· < ·) := by
  obtain ⟨h4, h5, h6⟩ := compact_spec _ (srt_sorted (cM n m ((n + m - 1) / m) more more.length))
  have h0 : cutP n m more 0 := .inr (.inl ⟨0, by omega, by simp⟩)
  obtain ⟨h1, h2, h3⟩ := refD_spec _ h0 n
  rw [refD_eq hm hn] at h1 h2 h3
  have m0 := (h2 0).2 ⟨by omega, by omega, h0⟩
  have mn := (h2 n).2 ⟨by omega, by omega, .inl rfl⟩
  refine ⟨?_, by rw [srt_len] at h6; exact h6, fun j hj => ?_, h1⟩
  · match hd : dL n m more with
    | [] => rw [hd] at m0; simp at m0
    | [x] => rw [hd] at m0 mn; simp at m0 mn; omega
    | _ :: _ :: _ => simp
  · have e : (dL n m more).getD j 0 = (dL n m more)[j] := by simp [List.getD, hj]
    rw [e]
    have := (h2 _).1 (List.getElem_mem hj)
    exact ⟨this.1, this.2.1⟩
theorem take_prs {d : List Int} {j : Nat} (h : j + 1 < d.length) : (prsL d).take j ++ [(d.getD j 0, d.getD (j + 1) 0 - d.getD j 0)] = (prsL d).take (j + 1) := by
  rw [List.take_add_one, prsL_get d j h]; rfl
theorem take_all {d : List Int} : (prsL d).take (d.length - 1) = prsL d := by
  rw [← prsL_len]; exact List.take_length

open Classical in
noncomputable def lstD (S : Int → Prop) : Nat → Int
  | 0 => 0
  | k + 1 => if S ((k + 1 : Nat) : Int) then ((k + 1 : Nat) : Int) else lstD S k
theorem refD_last (S : Int → Prop) : ∀ k, (∃ l, refD S k = l ++ [lstD S k]) ∧ 0 ≤ lstD S k ∧ lstD S k ≤ k
  | 0 => ⟨⟨[], rfl⟩, by simp [lstD], by simp [lstD]⟩
  | k + 1 => by
    obtain ⟨⟨l, h1⟩, h2, h3⟩ := refD_last S k
    unfold refD lstD
    split
    · exact ⟨⟨refD S k, rfl⟩, by omega, by omega⟩
    · exact ⟨⟨l, h1⟩, h2, by omega⟩
theorem refD_yes {S : Int → Prop} {k : Nat} (h : S ((k + 1 : Nat) : Int)) : prsL (refD S (k + 1)) = prsL (refD S k) ++ [(lstD S k, ((k + 1 : Nat) : Int) - lstD S k)] ∧ lstD S (k + 1) = ((k + 1 : Nat) : Int) := by
  obtain ⟨⟨l, h1⟩, h2, h3⟩ := refD_last S k
  constructor
  · have : refD S (k + 1) = refD S k ++ [((k + 1 : Nat) : Int)] := if_pos h
    rw [this, h1, List.append_assoc]
    exact prsL_snoc l _ _
  · exact if_pos h
theorem refD_not {S : Int → Prop} {k : Nat} (h : ¬ S ((k + 1 : Nat) : Int)) : refD S (k + 1) = refD S k ∧ lstD S (k + 1) = lstD S k := ⟨if_neg h, if_neg h⟩
/-- the document's 'cut', so far -/
def bq (n : Nat) (size : Int) (more : List Int) (k t : Nat) : Bool := decide ((k : Int) = n ∨ (size ≤ n ∧ (k : Int) % size = 0)) || (more.take t).any (fun x => decide (x = (k : Int)))
theorem bq_T {n : Nat} {size : Int} {more : List Int} {k t : Nat} (h : bq n size more k t = true) : bq n size more k (t + 1) = true := by
  unfold bq at *
  simp only [Bool.or_eq_true] at *
  rcases h with h | h
  · exact .inl h
  · right
    rw [List.take_add_one, List.any_append, h]; rfl
theorem bq_F {n : Nat} {size : Int} {more : List Int} {k t : Nat} (h : bq n size more k t = false) (ht : t < more.length) : bq n size more k (t + 1) = decide (more.getD t 0 = (k : Int)) := by
  have e : more.getD t 0 = more[t] := by simp [List.getD, ht]
  unfold bq at *
  simp only [Bool.or_eq_false_iff] at h
  rw [h.1, List.take_add_one, List.any_append, h.2, List.getElem?_eq_getElem ht, e]
  simp
theorem bq_cut {n m : Nat} {size : Int} (hs : 1 ≤ size) (hm : (m : Int) = min size n) {more : List Int} {k : Nat} (hk : 0 < k) (hkn : k ≤ n) : bq n size more k more.length = true ↔ cutP n m more k := by
  unfold bq cutP
  rw [List.take_length, Bool.or_eq_true, decide_eq_true_eq, List.any_eq_true]
  simp only [decide_eq_true_eq]
  constructor
  · rintro ((h | ⟨h, h'⟩) | ⟨x, h, rfl⟩)
    · exact .inl h
    · have e : size = m := by omega
      by_cases hkn' : (k : Int) = n
      · exact .inl hkn'
      · right; left
        rw [e] at h'
        have h2 : m ∣ k := by have := Int.dvd_of_emod_eq_zero h'; exact_mod_cast this
        obtain ⟨i, hi⟩ := h2
        exact ⟨i, by rw [Nat.mul_comm, ← hi]; omega, by rw [Nat.mul_comm, ← hi]⟩
    · exact .inr (.inr ⟨h, by omega, by omega⟩)
  · rintro (h | ⟨i, h, h'⟩ | ⟨h, _, _⟩)
    · exact .inl (.inl h)
    · by_cases hle : size ≤ n
      · have e : size = m := by omega
        left; right
        refine ⟨hle, ?_⟩
        rw [e, h', Int.natCast_mul]
        exact Int.mul_emod_left _ _
      · have e : m = n := by omega
        subst e
        have : i = 0 := by
          rcases Nat.eq_zero_or_pos i with h0 | h0
          · exact h0
          · have := Nat.le_mul_of_pos_left m h0; omega
        subst this; simp at h'; omega
    · exact .inr ⟨k, h, rfl⟩
end Go.Sx
namespace Go.Sx
theorem sorted_next {d : List Int} (hd : d.Pairwise (· < ·)) {k : Nat} (hk : k + 1 < d.length) {y : Int} (hy : y ∈ d) (h : d.getD k 0 < y) : d.getD (k + 1) 0 ≤ y := by
  obtain ⟨j, hj, rfl⟩ := List.mem_iff_getElem.1 hy
  have e1 : d.getD k 0 = d[k] := by simp [List.getD, show k < d.length by omega]
  have e2 : d.getD (k + 1) 0 = d[k + 1] := by simp [List.getD, hk]
  rw [e1] at h; rw [e2]
  rcases Nat.lt_or_ge j (k + 1) with hlt | hge
  · rcases Nat.eq_or_lt_of_le (Nat.le_of_lt_succ hlt) with rfl | hl
    · omega
    · have := List.pairwise_iff_getElem.1 hd j k hj (by omega) hl; omega
  · rcases Nat.eq_or_lt_of_le hge with rfl | hl
    · exact Int.le_refl _
    · have := List.pairwise_iff_getElem.1 hd (k + 1) j hk hj hl; omega
theorem dL_more {n m : Nat} (hm : 0 < m) (hn : 0 < n) (more : List Int) : (dL n m more).getD 0 0 = 0 ∧ (dL n m more).getD ((dL n m more).length - 1) 0 = n ∧
    ∀ k, k + 1 < (dL n m more).length → (dL n m more).getD k 0 < (dL n m more).getD (k + 1) 0 ∧ (dL n m more).getD (k + 1) 0 - (dL n m more).getD k 0 ≤ m := by
  obtain ⟨g1, g2, g3, g4⟩ := dL_facts (n := n) (m := m) hm hn more
  have h0 : cutP n m more 0 := .inr (.inl ⟨0, by omega, by simp⟩)
  obtain ⟨h1, h2, h3⟩ := refD_spec _ h0 n
  rw [refD_eq hm hn] at h1 h2 h3
  have m0 := (h2 0).2 ⟨by omega, by omega, h0⟩
  have mn := (h2 n).2 ⟨by omega, by omega, .inl rfl⟩
  have hge : ∀ j, (hj : j < (dL n m more).length) → (dL n m more).getD j 0 = (dL n m more)[j] := fun j hj => by simp [List.getD, hj]
  have hmono : ∀ i j, i < j → (hj : j < (dL n m more).length) → (dL n m more).getD i 0 < (dL n m more).getD j 0 := fun i j hij hj => by
    rw [hge i (by omega), hge j hj]; exact List.pairwise_iff_getElem.1 g4 i j (by omega) hj hij
  refine ⟨?_, ?_, fun k hk => ⟨hmono k (k + 1) (by omega) hk, ?_⟩⟩
  · obtain ⟨j, hj, e⟩ := List.mem_iff_getElem.1 m0
    rw [← hge j hj] at e
    rcases Nat.eq_zero_or_pos j with rfl | hp
    · exact e
    · have := hmono 0 j hp hj; have := g3 0 (by omega); omega
  · obtain ⟨j, hj, e⟩ := List.mem_iff_getElem.1 mn
    rw [← hge j hj] at e
    rcases Nat.eq_or_lt_of_le (show j ≤ (dL n m more).length - 1 by omega) with rfl | hp
    · exact e
    · have := hmono j _ hp (by omega); have := g3 ((dL n m more).length - 1) (by omega); omega
  · obtain ⟨a1, a2⟩ := g3 k (by omega)
    have hlt : (dL n m more).getD k 0 < n := by have := hmono k (k + 1) (by omega) hk; have := g3 (k + 1) hk; omega
    obtain ⟨x, hx⟩ : ∃ x : Nat, (dL n m more).getD k 0 = (x : Int) := ⟨((dL n m more).getD k 0).toNat, by omega⟩
    have hdm := Nat.div_add_mod x m
    have hml := Nat.mod_lt x hm
    have he : (x / m + 1) * m = m * (x / m) + m := by rw [Nat.add_mul, Nat.one_mul, Nat.mul_comm]
    by_cases hc : (x / m + 1) * m < n
    · have hin : (((x / m + 1) * m : Nat) : Int) ∈ dL n m more := (h2 _).2 ⟨by omega, by omega, .inr (.inl ⟨x / m + 1, hc, rfl⟩)⟩
      have := sorted_next g4 hk hin (by omega)
      omega
    · have := sorted_next g4 hk mn (by omega)
      omega
end Go.Sx

set_option linter.unusedVariables false
set_option linter.unusedSimpArgs false
namespace Go.Sx
open Go.Proofs
theorem sort_c {H H' : List (List AV)} {id n : Nat} {zs : List Int} (hid : H[id]? = some (il zs)) (hn : zs.length = n) (hsz : zs.length < 4611686018427387904) (hH : H.set id (il (srt zs)) = H') : CSpec Try.prog 133 [.slm id n 0 n 1] H (.tup []) H' := by
  subst hH hn
  exact .inl ⟨fun args w => Try.call133 args w, spec_row (srt_len zs) hid fun b off cap w hH hb hc => Try.slices_Sort_int b off cap zs w hH hb hsz⟩
theorem compact_c {H H' : List (List AV)} {id n : Nat} {zs : List Int} (hid : H[id]? = some (il zs)) (hn : zs.length = n) (hsz : zs.length ≤ 9223372036854775807) (hH : H.set id (il (Lib.compact zs ++ List.replicate (zs.length - (Lib.compact zs).length) 0)) = H') :
    CSpec Try.prog 134 [.slm id n 0 n 1] H (.slm id n 0 (Lib.compact zs).length 1) H' := by
  subst hH hn
  have hl := compact_len_le zs
  refine .inl ⟨fun args w => Try.call134 args w, spec_cut (by simp; omega) hl hid fun b off cap w hH hb hc => ?_⟩
  exact Try.slices_Compact_int b off cap zs w hH hsz hc
end Go.Sx

set_option linter.unusedVariables false
set_option linter.unusedSimpArgs false
namespace Go.Sx
/-! ### L and U, filled number by number; the rows' order -/
def befo (i0 j0 i j : Nat) : Prop := i < i0 ∨ (i = i0 ∧ j < j0)
instance (i0 j0 i j : Nat) : Decidable (befo i0 j0 i j) := by unfold befo; infer_instance
/-- which row is at each place, after so many steps -/
def ordS (p : List Int) : Nat → List Int
  | 0 => (List.range p.length).map fun k : Nat => (k : Int)
  | k + 1 => ((ordS p k).set k ((ordS p k).getD (p.getD k 0).toNat 0)).set (p.getD k 0).toNat ((ordS p k).getD k 0)
@[simp] theorem ordS_len (p : List Int) : ∀ k, (ordS p k).length = p.length
  | 0 => by simp [ordS]
  | k + 1 => by simp [ordS, ordS_len p k]
def ixL (k : Nat) : List Int := (List.range k).map fun k : Nat => (k : Int)
@[simp] theorem ixL_len (k : Nat) : (ixL k).length = k := by simp [ixL]
end Go.Sx

set_option linter.unusedVariables false
set_option linter.unusedSimpArgs false
/-! ### stepping: arrays of two numbers, lists of such -/
namespace Go.Sx
class ArrI (P : Program) (t : TypeId) (k : outParam IntKind) : Prop where
  h : ∃ e, P.underlying t = some (.array 2 e) ∧ tsz P e = some 1 ∧ P.underlying e = some (.int k)
  g : P.eqGuardType P.depth t = false
  z : (tzero P t).bind AV.cells = some [.int k 0, .int k 0]
def pr2 (a b : Int) : List AV := [.int .i64 a, .int .i64 b]
/-- a list of pairs, as it lies -/
def pl2 (l : List (Int × Int)) : List AV := (l.map fun p => pr2 p.1 p.2).flatten
theorem pl2_cons (a : Int × Int) (l : List (Int × Int)) : pl2 (a :: l) = .int .i64 a.1 :: .int .i64 a.2 :: pl2 l := rfl
@[simp] theorem pl2_len (l : List (Int × Int)) : (pl2 l).length = 2 * l.length := by
  induction l with
  | nil => rfl
  | cons a l ih => rw [pl2_cons]; simp only [List.length_cons, ih]; omega
theorem pl2_snoc (l : List (Int × Int)) (p : Int × Int) : pl2 l ++ pr2 p.1 p.2 = pl2 (l ++ [p]) := by simp [pl2]
theorem mxL_pl2 (l : List (Int × Int)) : mxL (pl2 l) = 0 := by
  induction l with
  | nil => rfl
  | cons a l ih => rw [pl2_cons]; simp only [mxL, mx, ih]; rfl
theorem pl2_get (l : List (Int × Int)) : ∀ (j : Nat) (p : Int × Int), l[j]? = some p → (pl2 l)[j * 2 + 0]? = some (.int .i64 p.1) ∧ (pl2 l)[j * 2 + 1]? = some (.int .i64 p.2) := by
  induction l with
  | nil => intro j p h; simp at h
  | cons a l ih =>
    intro j p h
    cases j with
    | zero => simp at h; subst h; simp [pl2_cons]
    | succ j =>
      have := ih j p (by simpa using h)
      rw [pl2_cons, show (j + 1) * 2 + 0 = j * 2 + 0 + 1 + 1 by omega, show (j + 1) * 2 + 1 = (j * 2 + 1) + 1 + 1 by omega]
      simpa using this
theorem pl2_gc (l : List (Int × Int)) {j : Nat} {p : Int × Int} (h : l[j]? = some p) : gc (pl2 l) (j * 2) 2 = some (pr2 p.1 p.2) := by
  obtain ⟨h1, h2⟩ := pl2_get l j p h
  rw [Nat.add_zero] at h1
  simp [gc, h1, h2, pr2]
section
variable {P : Program} {cfg : Cfg} {e : List (Nat × EV)} {L : List (Nat × List AV)} {H A N N' N₀ : List (List AV)} {K : St → Prop}
variable {ty : TypeId} {pos : String} {aft : Array Edge} {gd : Option (Nat × Bool)} {dd : Nat} {t tx : TypeId}
theorem b_bldA {k : IntKind} [ar : ArrI P t k] {x y : Operand} {a b : Int} (hx : St.ev ⟨e, L, H⟩ x = .val (.int k a)) (hy : St.ev ⟨e, L, H⟩ y = .val (.int k b)) (h : K ⟨(dd, .val (.agg [.int k a, .int k b])) :: e, L, H⟩) :
    opX P cfg ⟨some dd, .build t #[(0, x), (1, y)], ty, pos, aft, gd⟩ K ⟨e, L, H⟩ := by
  rw [op_pure P cfg e L H K _ _ _ _ _ _ rfl]
  obtain ⟨el, h1, h2, h3⟩ := ar.h
  have hz := ar.z
  cases hq : tzero P t with
  | none => rw [hq] at hz; cases hz
  | some z =>
    rw [hq] at hz
    simp only [Option.bind_some] at hz
    have : buildV P (St.ev ⟨e, L, H⟩) t #[(0, x), (1, y)] = some (.agg [.int k a, .int k b]) := by
      have hf : fillA (fun i => some (i * 1, 1)) [.int k 0, .int k 0] [(0, some (.int k a)), (1, some (.int k b))] = some [.int k a, .int k b] := by simp [fillA, AV.cells, sc]
      have e2 : (#[(0, x), (1, y)] : Array (Nat × Operand)).toList.map (fun (i, x) => (i, ((St.ev ⟨e, L, H⟩) x).asV)) = [(0, some (.int k a)), (1, some (.int k b))] := by simp [hx, hy, EV.asV]
      unfold buildV
      rw [hq, h1]
      simp only [h2, Option.bind_some, hz]
      rw [e2, hf]; rfl
    simp only [pureV, this, Option.map_some, pureK]
    exact ⟨trivial, h⟩
theorem b_bslA {by_ : Nat} {z1 z2 a b : AV} {x : Operand} [ei : EI P t 2 by_ [z1, z2]] (hx : St.ev ⟨e, L, H⟩ x = .val (.agg [a, b])) (hfz : cfg.fz.contains dd = true) (h : K ⟨(dd, .val (.sl none 1 [a, b])) :: e, L, H⟩) :
    opX P cfg ⟨some dd, .buildSlice t 1 #[(0, x)], ty, pos, aft, gd⟩ K ⟨e, L, H⟩ := by
  have : fillA (fun i => some (i * 2, 2)) (zrep 1 [z1, z2]) ([(0, x)].map fun (p : Nat × Operand) => (p.1, ((St.ev ⟨e, L, H⟩) p.2).asV)) = some [a, b] := by
    simp [hx, EV.asV, fillA, AV.cells, sc, zrep]
  simp only [opX, opE, ei.h, Option.any_some, hfz, if_true]
  have e2 : (#[(0, x)] : Array (Nat × Operand)).toList.map (fun (i, x) => (i, ((St.ev ⟨e, L, H⟩) x).asV)) = [(0, x)].map fun (p : Nat × Operand) => (p.1, ((St.ev ⟨e, L, H⟩) p.2).asV) := rfl
  rw [e2, this]
  exact ⟨rfl, by omega, by omega, h⟩
def gV2 (n i k : Nat) : AV := if k = 0 then .slnil else .slm (n + i) (2 * k) 0 k 2
theorem b_grow2 {s x : Operand} {n i k by_ el' z' : Nat} {z1 z2 : AV} {l l' : List (Int × Int)} {p : Int × Int} [ei : EI P t 2 by_ [z1, z2]] [si : SlI P tx el' z'] (hs : St.ev ⟨e, L, A ++ (N₀ ++ gN (pl2 l))⟩ s = .val (gV2 n i k)) (hx : St.ev ⟨e, L, A ++ (N₀ ++ gN (pl2 l))⟩ x = .val (.sl none 1 (pr2 p.1 p.2)))
    (hA : A.length = n) (hi : N₀.length = i) (hk : l.length = k) (hm : k + 1 ≤ 2 ^ 32) (hn : cfg.n0 = n) (hz : (decide (by_ ≤ 2 ^ 10) && decide (0 < by_)) = true) (hl : l ++ [p] = l')
    (h : K ⟨(dd, .val (gV2 n i (k + 1))) :: e, L, A ++ (N₀ ++ gN (pl2 l'))⟩) :
    opX P cfg ⟨some dd, .call { callee := .builtin .append, args := #[s, x], argTypes := #[t, tx] }, ty, pos, aft, gd⟩ K ⟨e, L, A ++ (N₀ ++ gN (pl2 l))⟩ := by
  subst hl hA hi hk
  have hne : pl2 (l ++ [p]) ≠ [] := by intro h; have := congrArg List.length h; simp at this
  have e1 : gV2 A.length N₀.length (l.length + 1) = .slm (A.length + N₀.length) (2 * (l.length + 1)) 0 (l.length + 1) 2 := by simp [gV2]
  have e2 : gN (pl2 (l ++ [p])) = [pl2 (l ++ [p])] := by simp [gN, hne]
  rw [e1, e2] at h
  cases l with
  | nil =>
    simp only [pl2, List.map_nil, List.flatten_nil, gN, if_true, List.append_nil, List.length_nil, gV2] at hs hx h ⊢
    refine b_app0 hs hx (src_fz (by simp [pr2])) (by omega) (by simpa using hz) ?_
    have e3 : pl2 ([] ++ [p]) = pr2 p.1 p.2 := by simp [pl2]
    simpa [List.append_assoc, pr2, e3] using h
  | cons q l =>
    have hne' : pl2 (q :: l) ≠ [] := by intro h; have := congrArg List.length h; simp at this
    have e3 : gV2 A.length N₀.length (q :: l).length = .slm (A.length + N₀.length) (2 * (q :: l).length) 0 (q :: l).length 2 := by simp [gV2]
    have e4 : gN (pl2 (q :: l)) = [pl2 (q :: l)] := by simp [gN, hne']
    rw [e3] at hs
    rw [e4] at hs hx ⊢
    refine b_app1 (cs := pl2 (q :: l)) hs hx (src_fz (by simp [pr2])) (hg_new rfl (by simp)) (by simp) (by omega) hm (.inl (by omega)) (by simpa using hz) ?_
    rw [hs_new rfl (N' := N₀ ++ [pl2 (q :: l) ++ pr2 p.1 p.2]) (by simp), pl2_snoc]
    have e5 : (pl2 (q :: l)).length + (pr2 p.1 p.2).length = 2 * ((q :: l).length + 1) := by simp [pr2]; omega
    rw [e5]
    exact h
theorem gV2_fr {n i k : Nat} {l : List (Int × Int)} (hA : A.length = n) (hi : N₀.length = i) (hk : l.length = k) : Fr n [] (A ++ (N₀ ++ gN (pl2 l))) (gV2 n i k) (.sl none k (pl2 l)) := by
  cases l with
  | nil =>
    simp only [List.length_nil] at hk; subst hk
    exact Fr.nil
  | cons a l =>
    have hk0 : k ≠ 0 := by simp at hk; omega
    have hne' : pl2 (a :: l) ≠ [] := by intro h; have := congrArg List.length h; simp at this
    simp only [gV2, if_neg hk0]
    have : (A ++ (N₀ ++ gN (pl2 (a :: l))))[n + i]? = some (pl2 (a :: l)) := by
      refine hg_new hA ?_
      subst hi; simp [gN, hne']
    exact Fr.fz (by omega) (by simp) this (by simp at hk ⊢; omega) (gc_all _ (by simp at hk ⊢; omega)) (Frs.old (by rw [mxL_pl2]; exact Nat.zero_le _))
/-- a pair of a list that nobody writes -/
theorem l_pr2 {l : List (Int × Int)} {j m : Nat} {p : Int × Int} [ti : TyI P t 2 true] (hp : l[j]? = some p) (h : K ⟨(dd, .val (.agg (pr2 p.1 p.2))) :: e, L, H⟩) : loadK P t dd K ⟨e, L, H⟩ (.val (.eptr (.sl none m (pl2 l)) (j * 2))) :=
  l_ptrA (by simp only [sread]; exact pl2_gc l hp) h
theorem l_pr20 {l : List (Int × Int)} {j m : Nat} {p : Int × Int} [ti : TyI P t 1 false] (hp : l[j]? = some p) (h : K ⟨(dd, .val (.int .i64 p.1)) :: e, L, H⟩) : loadK P t dd K ⟨e, L, H⟩ (.val (.eptr (.sl none m (pl2 l)) (j * 2 + 0))) :=
  l_ptr1 (by simp only [sread]; exact gc_one (pl2_get l j p hp).1) h
theorem l_pr21 {l : List (Int × Int)} {j m : Nat} {p : Int × Int} [ti : TyI P t 1 false] (hp : l[j]? = some p) (h : K ⟨(dd, .val (.int .i64 p.2)) :: e, L, H⟩) : loadK P t dd K ⟨e, L, H⟩ (.val (.eptr (.sl none m (pl2 l)) (j * 2 + 1))) :=
  l_ptr1 (by simp only [sread]; exact gc_one (pl2_get l j p hp).2) h
theorem b_iaA {k : IntKind} [ar : ArrI P t k] {x : Operand} {s : AV} {off n : Nat} (hx : St.ev ⟨e, L, H⟩ x = .val (.eptr s off)) (hn : n < 2) (h : K ⟨(dd, .val (.eptr s (off + n))) :: e, L, H⟩) :
    opX P cfg ⟨some dd, .indexAddr t x (.const (.int .i64 (n : Int))), ty, pos, aft, gd⟩ K ⟨e, L, H⟩ := by
  rw [op_pure P cfg e L H K _ _ _ _ _ _ rfl]
  obtain ⟨el, h1, h2, h3⟩ := ar.h
  have ht : telem P t = none := by simp [telem, h1]
  have hta : tarr P t = some (2, el) := by simp [tarr, h1]
  have hc : tailI ((St.ev ⟨e, L, H⟩) (.const (.int .i64 (n : Int)))) = some (n : Int) := rfl
  have : pureV P (St.ev ⟨e, L, H⟩) (lk L) H (.indexAddr t x (.const (.int .i64 (n : Int)))) = some (0 ≤ (n : Int) ∧ (n : Int) < (2 : Nat), .val (.eptr s (off + n))) := by
    simp only [pureV, ht, hc, hta, Option.bind_some, h2, hx, Int.toNat_natCast, Nat.mul_one]
  rw [this]
  exact ⟨by omega, h⟩
theorem b_neA [ar : ArrI P t .i64] {x y : Operand} {t' : TypeId} {a b : Int} (hx : St.ev ⟨e, L, H⟩ x = .val (.agg (pr2 a b))) (hy : St.ev ⟨e, L, H⟩ y = .val (.agg (pr2 a b))) (h : K ⟨(dd, .val (.bool false)) :: e, L, H⟩) :
    opX P cfg ⟨some dd, .binOp .neq t x y t', ty, pos, aft, gd⟩ K ⟨e, L, H⟩ := by
  obtain ⟨el, h1, h2, h3⟩ := ar.h
  have hq : arrEq P t (pr2 a b) (pr2 a b) = some true := by
    unfold arrEq pr2
    rw [h1]
    simp [h2, h3, ar.g]
  have hb : binV P .neq t (.val (.agg (pr2 a b))) (.val (.agg (pr2 a b))) = some (True, .bool false) := by
    simp [binV, AV.asF, othV, hq]
  have : pureV P (St.ev ⟨e, L, H⟩) (lk L) H (.binOp .neq t x y t') = some (True, .val (.bool false)) := by
    simp only [pureV, hx, hy, hb]
  simp only [opX, opE, this]
  exact ⟨trivial, h⟩
end
end Go.Sx
namespace Go.Sx
theorem il_app_get {a b : List Int} {k : Nat} (h : k < a.length) : (il (a ++ b))[k]? = some (.int .i64 (a.getD k 0)) := by
  rw [il_get (by rw [List.length_append]; omega)]
  congr 2
  simp [List.getD, List.getElem?_append_left h]
end Go.Sx

set_option linter.unusedVariables false
set_option linter.unusedSimpArgs false
set_option maxRecDepth 20000
namespace Go.Sx
open Go.Proofs

instance : ArrI Try.prog 98 .i64 := ⟨⟨3, by kernel_rfl, by kernel_rfl, by kernel_rfl⟩, by kernel_rfl, by kernel_rfl⟩
attribute [local irreducible] Ex exOps exD opX opE thenX blkX RetQ Spec CSpec Fr condK guardK guardD ckK valK pickK loadK faK callK argK gK fK rK RetV lpX prK
set_option maxHeartbeats 4000000 in
theorem blk_b (H : List (List AV)) (P : AV) (more : List Int) (hP : IL H P more) (hml : more.length ≤ 1000) (n size : Int) (hn : -9223372036854775808 ≤ n ∧ n ≤ 9223372036854775807) (hs : -9223372036854775808 ≤ size ∧ size ≤ 9223372036854775807) (hbad : n < 1 ∨ 4096 < n ∨ size < 1) :
    CSpec Try.prog 79 [.int .i64 n, .int .i64 size, P] H (.sl none 0 (pl2 [])) H := by
  refine .mk (fun args w => Try.call79 args w) (Spec.intro' (fn := Try.f79) Try.func79 rfl (by kernel_rfl) (by simp) false [] (draw := drawX Try.prog ⟨false, _, []⟩) dOk ?_)
  simp only [argE, Nat.reduceAdd]
  repeat' (first
    | (refine gateE ?_; (first | (refine b_c0 ?_; (first | refine b_moveF (by kernel_rfl) ?_ | refine b_moveI ?_ | refine b_move (by (conv => {lhs; whnf}); done) ?_ | (refine b_load (by (conv => {lhs; whnf}); done) ?_; (first | refine l_loc1 (by exact rfl) (by exact rfl) ?_ | refine l_locA (by exact rfl) (by exact rfl) ?_ | fail)) | (refine b_bin (by (conv => {lhs; whnf}); done) (by (conv => {lhs; whnf}); done) (by (conv => {lhs; whnf}); done) ?_; (first | refine v_T (by omega) ?_ | refine v_F (by omega) ?_ | refine v_w (by omega) ?_ | refine v_wu (by omega) ?_ | refine v_k ?_ | refine v_c (by omega) ?_ | fail)) | (refine b_pick (by (conv => {lhs; whnf}); done) ?_; (first | refine p_T (by (conv => {lhs; whnf}); done) ?_ | refine p_F (by (conv => {lhs; whnf}); done) ?_ | fail)) | refine b_assignF (by kernel_rfl) ?_ | refine b_assignI ?_ | refine b_assignN ?_ | refine b_assign (by (conv => {lhs; whnf}); done) ?_ | refine b_callB ?_ | refine b_lenA (by (conv => {lhs; whnf}); done) (by first | rfl | assumption) ?_ | refine b_build ?_ | refine b_bslZ (by exact rfl) (by exact rfl) (by decide) ?_ | refine b_min2 (by first | (conv => {lhs; whnf}; done) | exact (by exact rfl) | fail) (by first | (conv => {lhs; whnf}; done) | exact (by exact rfl) | fail) (by first | assumption | exact rfl) ?_ | fail)) | refine b_nil ?_ | refine b_gT (by exact rfl) (by exact rfl) ?_ | refine b_gF (by exact rfl) (by exact rfl) (by exact rfl) ?_ | refine b_gU (by exact rfl) (by exact rfl) (by constructor <;> simp) (by exact rfl) (by exact rfl) ?_ | (refine b_g0 (by exact rfl) (by exact rfl) (by (conv => {lhs; whnf}); done) ?_; (first | refine g_TT ?_ | refine g_FF ?_ | refine g_TF ?_ | refine g_FT ?_ | refine g_PT ?_ ?_ | refine g_PF ?_ ?_ | refine g_BT ?_ ?_ | refine g_BF ?_ ?_ | fail)) | (refine b_g1 (by exact rfl) (by exact rfl) (by exact rfl) (by (conv => {lhs; whnf}); done) ?_; (first | refine g_TT ?_ | refine g_FF ?_ | refine g_TF ?_ | refine g_FT ?_ | refine g_PT ?_ ?_ | refine g_PF ?_ ?_ | refine g_BT ?_ ?_ | refine g_BF ?_ ?_ | fail)) | refine b_c1 (by exact rfl) ?_ | fail))
    | (refine gateO ?_; (first | refine b_moveF (by kernel_rfl) ?_ | refine b_moveI ?_ | refine b_move (by (conv => {lhs; whnf}); done) ?_ | (refine b_load (by (conv => {lhs; whnf}); done) ?_; (first | refine l_loc1 (by exact rfl) (by exact rfl) ?_ | refine l_locA (by exact rfl) (by exact rfl) ?_ | fail)) | (refine b_bin (by (conv => {lhs; whnf}); done) (by (conv => {lhs; whnf}); done) (by (conv => {lhs; whnf}); done) ?_; (first | refine v_T (by omega) ?_ | refine v_F (by omega) ?_ | refine v_w (by omega) ?_ | refine v_wu (by omega) ?_ | refine v_k ?_ | refine v_c (by omega) ?_ | fail)) | (refine b_pick (by (conv => {lhs; whnf}); done) ?_; (first | refine p_T (by (conv => {lhs; whnf}); done) ?_ | refine p_F (by (conv => {lhs; whnf}); done) ?_ | fail)) | refine b_assignF (by kernel_rfl) ?_ | refine b_assignI ?_ | refine b_assignN ?_ | refine b_assign (by (conv => {lhs; whnf}); done) ?_ | refine b_callB ?_ | refine b_lenA (by (conv => {lhs; whnf}); done) (by first | rfl | assumption) ?_ | refine b_build ?_ | refine b_bslZ (by exact rfl) (by exact rfl) (by decide) ?_ | refine b_min2 (by first | (conv => {lhs; whnf}; done) | exact (by exact rfl) | fail) (by first | (conv => {lhs; whnf}; done) | exact (by exact rfl) | fail) (by first | assumption | exact rfl) ?_ | fail))
    | (refine gateD ?_; (first | (refine d_c0 (by exact rfl) ?_; (first | refine b_moveF (by kernel_rfl) ?_ | refine b_moveI ?_ | refine b_move (by (conv => {lhs; whnf}); done) ?_ | (refine b_load (by (conv => {lhs; whnf}); done) ?_; (first | refine l_loc1 (by exact rfl) (by exact rfl) ?_ | refine l_locA (by exact rfl) (by exact rfl) ?_ | fail)) | (refine b_bin (by (conv => {lhs; whnf}); done) (by (conv => {lhs; whnf}); done) (by (conv => {lhs; whnf}); done) ?_; (first | refine v_T (by omega) ?_ | refine v_F (by omega) ?_ | refine v_w (by omega) ?_ | refine v_wu (by omega) ?_ | refine v_k ?_ | refine v_c (by omega) ?_ | fail)) | (refine b_pick (by (conv => {lhs; whnf}); done) ?_; (first | refine p_T (by (conv => {lhs; whnf}); done) ?_ | refine p_F (by (conv => {lhs; whnf}); done) ?_ | fail)) | refine b_assignF (by kernel_rfl) ?_ | refine b_assignI ?_ | refine b_assignN ?_ | refine b_assign (by (conv => {lhs; whnf}); done) ?_ | refine b_callB ?_ | refine b_lenA (by (conv => {lhs; whnf}); done) (by first | rfl | assumption) ?_ | refine b_build ?_ | refine b_bslZ (by exact rfl) (by exact rfl) (by decide) ?_ | refine b_min2 (by first | (conv => {lhs; whnf}; done) | exact (by exact rfl) | fail) (by first | (conv => {lhs; whnf}; done) | exact (by exact rfl) | fail) (by first | assumption | exact rfl) ?_ | fail)) | refine d_nil ?_ | refine d_gT (by exact rfl) (by exact rfl) (by exact rfl) ?_ | refine d_gF (by exact rfl) (by exact rfl) (by exact rfl) (by exact rfl) ?_ | refine d_gU (by exact rfl) (by exact rfl) (by exact rfl) (by constructor <;> simp) (by exact rfl) (by exact rfl) ?_ | (refine d_g0 (by exact rfl) (by exact rfl) (by exact rfl) (by (conv => {lhs; whnf}); done) ?_; (first | refine dg_TT ?_ | refine dg_FF ?_ | refine dg_TF ?_ | refine dg_FT ?_ | refine dg_PT ?_ ?_ | refine dg_PF ?_ ?_ | refine dg_BT ?_ ?_ | refine dg_BF ?_ ?_ | fail)) | (refine d_g1 (by exact rfl) (by exact rfl) (by exact rfl) (by exact rfl) (by (conv => {lhs; whnf}); done) ?_; (first | refine dg_TT ?_ | refine dg_FF ?_ | refine dg_TF ?_ | refine dg_FT ?_ | refine dg_PT ?_ ?_ | refine dg_PF ?_ ?_ | refine dg_BT ?_ ?_ | refine dg_BF ?_ ?_ | fail)) | refine d_c1 (by exact rfl) (by exact rfl) ?_ | fail))
    | (refine gateC ?_; (first | refine k_lt ?_ | refine k_fz ?_ | refine k_lb (by (conv => {lhs; whnf}); done) ?_ | refine k_ms ?_ | refine k_bx (by exact rfl) (by exact rfl) ?_ | refine k_ld (by (conv => {lhs; whnf}); done) (by exact rfl) ?_ | refine k_ldT (by (conv => {lhs; whnf}); done) ?_ | refine k_bin (by (conv => {lhs; whnf}); done) (by exact rfl) ?_ | refine k_mn ?_ | refine k_mnB (by exact rfl) ?_ | refine k_mnF ?_ | refine k_mnL (by exact rfl) ?_ | fail))
    | (refine gateT ?_; (first | refine b_thn ?_ | refine b_thr ?_ | refine b_the ?_ | fail))
    | (refine gateX ?_; (first | refine b_seq ?_ | refine b_region ?_ | (refine b_cond (by (conv => {lhs; whnf}); done) ?_; (first | refine c_T ?_ | refine c_F ?_ | refine c_P ?_ ?_ | refine c_B ?_ ?_ | fail)) | refine b_ret ?_ | refine b_skip ?_ | refine b_block ?_ | refine b_exit ?_ | refine b_draw (id := 20) [] [13] [(0, .lt), (1, .lt), (2, .lt), (3, .lt), (4, .ld true), (5, .lt), (6, .lt), (7, .lt), (8, .lt), (9, .ld true), (10, .lt), (11, .lt), (12, .mn true), (13, .mn false), (14, .lt)] (by kernel_rfl) ?_ | fail))
    | refine a_cons (by (conv => {lhs; whnf}); done) ?_
    | refine a_nil ?_
    | refine fk_cons (by (conv => {lhs; whnf}); done) (by first | exact (by exact rfl) | exact cells_of_len hF.len | fail) (by exact rfl) (by exact rfl) (by (conv => {lhs; simp only [sc, List.set_cons_zero, List.set_cons_succ]}); done) ?_
    | refine fk_nil ?_
    | refine gk_consF (by kernel_rfl) ?_
    | refine gk_cons (by (conv => {lhs; whnf}); done) ?_
    | (refine gk_nilN (by (conv => {lhs; simp only [List.nil_append, List.cons_append]}); done) ?_; first | refine ⟨by exact rfl, ?_⟩ | skip)
    | refine gk_nil ?_
    | (intro N' hN'; simp only [List.nil_append, List.cons_append] at hN'; subst hN')
    | (refine gateB ?_; (first | refine b_bln ?_ | refine b_blr ?_ | refine b_ble ?_ | refine b_blo (by exact rfl) ?_ | fail))
    | (refine gateL ?_; (first | refine lp_n ?_ | refine lp_r ?_ | refine lp_e ?_ | fail))
    | (refine pr_k (by exact rfl) ?_; first | exact hK | (exfalso; first | omega | (simp_all; done) | (simp_all; omega)))
    | (refine gateQ ?_; refine b_retK (by simp) (by (conv => {lhs; whnf}); done) ?_)
    | (refine gateR ?_; (first | refine rk_tmp (by (conv => {lhs; whnf}); done) ?_ | refine rk_cellA (by (conv => {lhs; whnf}); done) (by exact rfl) (by exact rfl) ?_ | refine rk_cell1 (by (conv => {lhs; whnf}); done) (by exact rfl) (by exact rfl) ?_ | refine rk_nil ?_ | fail))
    | intro _)
  all_goals first
    | (exfalso; omega)
    | (refine rv_fr (A := H) (N := []) rfl ?_; exact Fr.nil)

set_option maxHeartbeats 4000000 in
theorem blk_0 (H : List (List AV)) (P : AV) (more : List Int) (hP : IL H P more) (hml : more.length ≤ 1000) (n m : Nat) (size : Int) (hn1 : 1 ≤ n) (hn4 : n ≤ 4096) (hs1 : 1 ≤ size) (hs2 : size ≤ 9223372036854775807) (hmin : min size (n : Int) = (m : Int)) :
    CSpec Try.prog 79 [.int .i64 (n : Int), .int .i64 size, P] H (.sl none ((dL n m more).length - 1) (pl2 (prsL (dL n m more)))) H := by
  have hm0 : 0 < m := by omega
  have hmn : m ≤ n := by omega
  have hK := fun i => @K_lt n m i hm0
  have hKn := K_le (n := n) hm0
  have hPl := hP.len
  obtain ⟨hd2, hdz, hdb, hds⟩ := dL_facts (n := n) (m := m) hm0 (by omega) more
  have hcl : ∀ j, (cM n m ((n + m - 1) / m) more j).length ≤ 4096 + 1 + 1000 := fun j => by have := cM_len_le n m ((n + m - 1) / m) more j; omega
  have hok : ∀ j, j < more.length → (0 ≤ more.getD j 0 ∧ more.getD j 0 ≤ n) → (cM n m ((n + m - 1) / m) more (j + 1)) = (cM n m ((n + m - 1) / m) more j) ++ [more.getD j 0] := fun j hj h => cM_ok hj h
  have hno : ∀ j, j < more.length → ¬ (0 ≤ more.getD j 0 ∧ more.getD j 0 ≤ n) → (cM n m ((n + m - 1) / m) more (j + 1)) = (cM n m ((n + m - 1) / m) more j) := fun j hj h => cM_no hj h
  have hc0 : cI n m ((n + m - 1) / m) = (cM n m ((n + m - 1) / m) more 0) := (cM_zero n m ((n + m - 1) / m) more).symm
  have hzl := hcl more.length
  have hsz : (srt (cM n m ((n + m - 1) / m) more more.length)).length = (cM n m ((n + m - 1) / m) more more.length).length := srt_len _
  have hkm : ∀ k, k < ((n + m - 1) / m) → k * m < n := fun k hk => (hK k).1 hk
  have hkm' : ∀ k, k < ((n + m - 1) / m) → (k + 1) * m = k * m + m := fun k hk => by rw [Nat.add_mul, Nat.one_mul]
  have hK9 : ¬ ((n + m - 1) / m) * m < n := fun h => absurd ((hK _).2 h) (by omega)
  have hlk : ∀ k, k < (dL n m more).length → (il ((dL n m more) ++ List.replicate ((srt (cM n m ((n + m - 1) / m) more more.length)).length - (dL n m more).length) 0))[0 + k]? = some (.int .i64 ((dL n m more).getD k 0)) := fun k hk => by rw [Nat.zero_add]; exact il_app_get hk
  have hlk1 : ∀ k, k + 1 < (dL n m more).length → (il ((dL n m more) ++ List.replicate ((srt (cM n m ((n + m - 1) / m) more more.length)).length - (dL n m more).length) 0))[1 + k]? = some (.int .i64 ((dL n m more).getD (k + 1) 0)) := fun k hk => by rw [Nat.add_comm 1 k]; exact il_app_get hk
  have hT9 : ((prsL (dL n m more)).take ((dL n m more).length - 1)) = prsL (dL n m more) := take_all
  have hblk : (il ((dL n m more) ++ List.replicate ((srt (cM n m ((n + m - 1) / m) more more.length)).length - (dL n m more).length) 0)).length = (cM n m ((n + m - 1) / m) more more.length).length := by rw [il_len, List.length_append, List.length_replicate]; omega
  refine .mk (fun args w => Try.call79 args w) (Spec.intro' (fn := Try.f79) Try.func79 rfl (by kernel_rfl) (by simp) false [36, 53, 80] (draw := drawX Try.prog ⟨false, _, [36, 53, 80]⟩) dOk ?_)
  simp only [argE, Nat.reduceAdd]
  repeat' (first
    | (refine gateE ?_; (first | (refine b_c0 ?_; (first | refine b_moveF (by kernel_rfl) ?_ | refine b_moveI ?_ | refine b_move (by (conv => {lhs; whnf}); done) ?_ | (refine b_load (by (conv => {lhs; whnf}); done) ?_; (first | refine l_loc1 (by exact rfl) (by exact rfl) ?_ | refine l_locA (by exact rfl) (by exact rfl) ?_ | refine l_IL (hP.app _) (by omega) ?_ | refine l_n1 (by exact rfl) (by exact rfl) hblk (by exact hlk k (by omega)) ?_ | refine l_n1 (by exact rfl) (by exact rfl) hblk (by exact hlk1 k (by omega)) ?_ | fail)) | refine b_appN (i := 0) (g' := (cI n m (k + 1)).length) (q := (cI n m (k + 1)).length) (cs' := il (cI n m (k + 1))) (N' := [il (cI n m (k + 1))]) (by (conv => {lhs; whnf}); done) (by (conv => {lhs; whnf}); done) (by exact rfl) (by exact rfl) (src_fz rfl) (by simp) (by exact rfl) (by simp; omega) (.inl (Nat.le_refl _)) (by exact rfl) (by exact cI_snoc n m k) (by exact rfl) (by simp) (by simp) ?_ | refine b_appN (i := 0) (g' := (cM n m ((n + m - 1) / m) more (k + 1)).length) (q := (cM n m ((n + m - 1) / m) more (k + 1)).length) (cs' := il (cM n m ((n + m - 1) / m) more (k + 1))) (N' := [il (cM n m ((n + m - 1) / m) more (k + 1))]) (by (conv => {lhs; whnf}); done) (by (conv => {lhs; whnf}); done) (by exact rfl) (by exact rfl) (src_fz rfl) (by simp) (by exact rfl) (by have := hcl k; omega) (.inl (Nat.le_refl _)) (by exact rfl) (by rw [hok k (by omega) (by omega)]; simp [il]) (by exact rfl) (by rw [hok k (by omega) (by omega)]; simp) (by rw [hok k (by omega) (by omega)]; simp) ?_ | refine b_lenA (by (conv => {lhs; whnf}); done) (by exact hPl) ?_ | refine b_lenA (by (conv => {lhs; whnf}); done) (by exact rfl) ?_ | refine b_iaN (by (conv => {lhs; whnf}); done) (by (conv => {lhs; whnf}); done) (by exact hPl) (by omega) ?_ | refine b_slc (v' := .slm (H.length + 0) (cM n m ((n + m - 1) / m) more more.length).length 1 ((dL n m more).length - 1) 1) (n := (dL n m more).length) (l := 1) (q := (dL n m more).length) (by (conv => {lhs; whnf}); done) (by exact rfl) (by exact rfl) (by exact rfl) (by omega) (by simp [slcV]; omega) ?_ | refine b_iaN (by (conv => {lhs; whnf}); done) (by (conv => {lhs; whnf}); done) (by exact rfl) (by omega) ?_ | refine b_bldA (by (conv => {lhs; whnf}); done) (by (conv => {lhs; whnf}); done) ?_ | refine b_bslA (by (conv => {lhs; whnf}); done) (by exact rfl) ?_ | refine b_grow2 (i := 1) (N₀ := [(il ((dL n m more) ++ List.replicate ((srt (cM n m ((n + m - 1) / m) more more.length)).length - (dL n m more).length) 0))]) (l := ((prsL (dL n m more)).take k)) (l' := ((prsL (dL n m more)).take (k + 1))) (p := ((dL n m more).getD k 0, (dL n m more).getD (k + 1) 0 - (dL n m more).getD k 0)) (by (conv => {lhs; whnf}); done) (by exact rfl) (by exact rfl) (by exact rfl) (by simp [prsL_len]; omega) (by omega) (by exact rfl) (by exact rfl) (by exact take_prs (by omega)) ?_ | refine b_bslN (by exact rfl) (by exact rfl) (by decide) (by exact rfl) (by (conv => {lhs; whnf}); done) ?_ | (refine b_bin (by (conv => {lhs; whnf}); done) (by (conv => {lhs; whnf}); done) (by (conv => {lhs; whnf}); done) ?_; (first | refine v_T (by first | omega | (have := hkm k (by omega); omega) | fail) ?_ | refine v_F (by first | omega | (have := hK9; omega) | fail) ?_ | refine v_to (((k + 1) * m : Nat) : Int) (by have h1 := hkm k (by omega); have h2 := hkm' k (by omega); omega) (by have h2 := hkm' k (by omega); omega) ?_ | refine v_to ((k + 1 : Nat) : Int) (by omega) (by omega) ?_ | refine v_w (by have h1 := hdb k (by omega); have h2 := hdb (k + 1) (by omega); omega) ?_ | refine v_T (by omega) ?_ | refine v_F (by omega) ?_ | refine v_w (by omega) ?_ | refine v_wu (by omega) ?_ | refine v_k ?_ | refine v_c (by omega) ?_ | fail)) | (refine b_pick (by (conv => {lhs; whnf}); done) ?_; (first | refine p_T (by (conv => {lhs; whnf}); done) ?_ | refine p_F (by (conv => {lhs; whnf}); done) ?_ | fail)) | refine b_assignF (by kernel_rfl) ?_ | refine b_assignI ?_ | refine b_assignN ?_ | refine b_assign (by (conv => {lhs; whnf}); done) ?_ | refine b_callB ?_ | refine b_lenA (by (conv => {lhs; whnf}); done) (by first | rfl | assumption) ?_ | refine b_build ?_ | refine b_bslZ (by exact rfl) (by exact rfl) (by decide) ?_ | refine b_min2 (by first | (conv => {lhs; whnf}; done) | exact (by exact rfl) | fail) (by first | (conv => {lhs; whnf}; done) | exact (by exact rfl) | fail) (by first | assumption | exact rfl) ?_ | fail)) | refine b_nil ?_ | refine b_gT (by exact rfl) (by exact rfl) ?_ | refine b_gF (by exact rfl) (by exact rfl) (by exact rfl) ?_ | refine b_gU (by exact rfl) (by exact rfl) (by constructor <;> simp) (by exact rfl) (by exact rfl) ?_ | (refine b_g0 (by exact rfl) (by exact rfl) (by (conv => {lhs; whnf}); done) ?_; (first | refine g_TT ?_ | refine g_FF ?_ | refine g_TF ?_ | refine g_FT ?_ | refine g_PT ?_ ?_ | refine g_PF ?_ ?_ | refine g_BT ?_ ?_ | refine g_BF ?_ ?_ | fail)) | (refine b_g1 (by exact rfl) (by exact rfl) (by exact rfl) (by (conv => {lhs; whnf}); done) ?_; (first | refine g_TT ?_ | refine g_FF ?_ | refine g_TF ?_ | refine g_FT ?_ | refine g_PT ?_ ?_ | refine g_PF ?_ ?_ | refine g_BT ?_ ?_ | refine g_BF ?_ ?_ | fail)) | refine b_c1 (by exact rfl) ?_ | fail))
    | (refine gateO ?_; (first | refine b_moveF (by kernel_rfl) ?_ | refine b_moveI ?_ | refine b_move (by (conv => {lhs; whnf}); done) ?_ | (refine b_load (by (conv => {lhs; whnf}); done) ?_; (first | refine l_loc1 (by exact rfl) (by exact rfl) ?_ | refine l_locA (by exact rfl) (by exact rfl) ?_ | refine l_IL (hP.app _) (by omega) ?_ | refine l_n1 (by exact rfl) (by exact rfl) hblk (by exact hlk k (by omega)) ?_ | refine l_n1 (by exact rfl) (by exact rfl) hblk (by exact hlk1 k (by omega)) ?_ | fail)) | refine b_appN (i := 0) (g' := (cI n m (k + 1)).length) (q := (cI n m (k + 1)).length) (cs' := il (cI n m (k + 1))) (N' := [il (cI n m (k + 1))]) (by (conv => {lhs; whnf}); done) (by (conv => {lhs; whnf}); done) (by exact rfl) (by exact rfl) (src_fz rfl) (by simp) (by exact rfl) (by simp; omega) (.inl (Nat.le_refl _)) (by exact rfl) (by exact cI_snoc n m k) (by exact rfl) (by simp) (by simp) ?_ | refine b_appN (i := 0) (g' := (cM n m ((n + m - 1) / m) more (k + 1)).length) (q := (cM n m ((n + m - 1) / m) more (k + 1)).length) (cs' := il (cM n m ((n + m - 1) / m) more (k + 1))) (N' := [il (cM n m ((n + m - 1) / m) more (k + 1))]) (by (conv => {lhs; whnf}); done) (by (conv => {lhs; whnf}); done) (by exact rfl) (by exact rfl) (src_fz rfl) (by simp) (by exact rfl) (by have := hcl k; omega) (.inl (Nat.le_refl _)) (by exact rfl) (by rw [hok k (by omega) (by omega)]; simp [il]) (by exact rfl) (by rw [hok k (by omega) (by omega)]; simp) (by rw [hok k (by omega) (by omega)]; simp) ?_ | refine b_lenA (by (conv => {lhs; whnf}); done) (by exact hPl) ?_ | refine b_lenA (by (conv => {lhs; whnf}); done) (by exact rfl) ?_ | refine b_iaN (by (conv => {lhs; whnf}); done) (by (conv => {lhs; whnf}); done) (by exact hPl) (by omega) ?_ | refine b_slc (v' := .slm (H.length + 0) (cM n m ((n + m - 1) / m) more more.length).length 1 ((dL n m more).length - 1) 1) (n := (dL n m more).length) (l := 1) (q := (dL n m more).length) (by (conv => {lhs; whnf}); done) (by exact rfl) (by exact rfl) (by exact rfl) (by omega) (by simp [slcV]; omega) ?_ | refine b_iaN (by (conv => {lhs; whnf}); done) (by (conv => {lhs; whnf}); done) (by exact rfl) (by omega) ?_ | refine b_bldA (by (conv => {lhs; whnf}); done) (by (conv => {lhs; whnf}); done) ?_ | refine b_bslA (by (conv => {lhs; whnf}); done) (by exact rfl) ?_ | refine b_grow2 (i := 1) (N₀ := [(il ((dL n m more) ++ List.replicate ((srt (cM n m ((n + m - 1) / m) more more.length)).length - (dL n m more).length) 0))]) (l := ((prsL (dL n m more)).take k)) (l' := ((prsL (dL n m more)).take (k + 1))) (p := ((dL n m more).getD k 0, (dL n m more).getD (k + 1) 0 - (dL n m more).getD k 0)) (by (conv => {lhs; whnf}); done) (by exact rfl) (by exact rfl) (by exact rfl) (by simp [prsL_len]; omega) (by omega) (by exact rfl) (by exact rfl) (by exact take_prs (by omega)) ?_ | refine b_bslN (by exact rfl) (by exact rfl) (by decide) (by exact rfl) (by (conv => {lhs; whnf}); done) ?_ | (refine b_bin (by (conv => {lhs; whnf}); done) (by (conv => {lhs; whnf}); done) (by (conv => {lhs; whnf}); done) ?_; (first | refine v_T (by first | omega | (have := hkm k (by omega); omega) | fail) ?_ | refine v_F (by first | omega | (have := hK9; omega) | fail) ?_ | refine v_to (((k + 1) * m : Nat) : Int) (by have h1 := hkm k (by omega); have h2 := hkm' k (by omega); omega) (by have h2 := hkm' k (by omega); omega) ?_ | refine v_to ((k + 1 : Nat) : Int) (by omega) (by omega) ?_ | refine v_w (by have h1 := hdb k (by omega); have h2 := hdb (k + 1) (by omega); omega) ?_ | refine v_T (by omega) ?_ | refine v_F (by omega) ?_ | refine v_w (by omega) ?_ | refine v_wu (by omega) ?_ | refine v_k ?_ | refine v_c (by omega) ?_ | fail)) | (refine b_pick (by (conv => {lhs; whnf}); done) ?_; (first | refine p_T (by (conv => {lhs; whnf}); done) ?_ | refine p_F (by (conv => {lhs; whnf}); done) ?_ | fail)) | refine b_assignF (by kernel_rfl) ?_ | refine b_assignI ?_ | refine b_assignN ?_ | refine b_assign (by (conv => {lhs; whnf}); done) ?_ | refine b_callB ?_ | refine b_lenA (by (conv => {lhs; whnf}); done) (by first | rfl | assumption) ?_ | refine b_build ?_ | refine b_bslZ (by exact rfl) (by exact rfl) (by decide) ?_ | refine b_min2 (by first | (conv => {lhs; whnf}; done) | exact (by exact rfl) | fail) (by first | (conv => {lhs; whnf}; done) | exact (by exact rfl) | fail) (by first | assumption | exact rfl) ?_ | fail))
    | (refine gateD ?_; (first | (refine d_c0 (by exact rfl) ?_; (first | refine b_moveF (by kernel_rfl) ?_ | refine b_moveI ?_ | refine b_move (by (conv => {lhs; whnf}); done) ?_ | (refine b_load (by (conv => {lhs; whnf}); done) ?_; (first | refine l_loc1 (by exact rfl) (by exact rfl) ?_ | refine l_locA (by exact rfl) (by exact rfl) ?_ | refine l_IL (hP.app _) (by omega) ?_ | refine l_n1 (by exact rfl) (by exact rfl) hblk (by exact hlk k (by omega)) ?_ | refine l_n1 (by exact rfl) (by exact rfl) hblk (by exact hlk1 k (by omega)) ?_ | fail)) | refine b_appN (i := 0) (g' := (cI n m (k + 1)).length) (q := (cI n m (k + 1)).length) (cs' := il (cI n m (k + 1))) (N' := [il (cI n m (k + 1))]) (by (conv => {lhs; whnf}); done) (by (conv => {lhs; whnf}); done) (by exact rfl) (by exact rfl) (src_fz rfl) (by simp) (by exact rfl) (by simp; omega) (.inl (Nat.le_refl _)) (by exact rfl) (by exact cI_snoc n m k) (by exact rfl) (by simp) (by simp) ?_ | refine b_appN (i := 0) (g' := (cM n m ((n + m - 1) / m) more (k + 1)).length) (q := (cM n m ((n + m - 1) / m) more (k + 1)).length) (cs' := il (cM n m ((n + m - 1) / m) more (k + 1))) (N' := [il (cM n m ((n + m - 1) / m) more (k + 1))]) (by (conv => {lhs; whnf}); done) (by (conv => {lhs; whnf}); done) (by exact rfl) (by exact rfl) (src_fz rfl) (by simp) (by exact rfl) (by have := hcl k; omega) (.inl (Nat.le_refl _)) (by exact rfl) (by rw [hok k (by omega) (by omega)]; simp [il]) (by exact rfl) (by rw [hok k (by omega) (by omega)]; simp) (by rw [hok k (by omega) (by omega)]; simp) ?_ | refine b_lenA (by (conv => {lhs; whnf}); done) (by exact hPl) ?_ | refine b_lenA (by (conv => {lhs; whnf}); done) (by exact rfl) ?_ | refine b_iaN (by (conv => {lhs; whnf}); done) (by (conv => {lhs; whnf}); done) (by exact hPl) (by omega) ?_ | refine b_slc (v' := .slm (H.length + 0) (cM n m ((n + m - 1) / m) more more.length).length 1 ((dL n m more).length - 1) 1) (n := (dL n m more).length) (l := 1) (q := (dL n m more).length) (by (conv => {lhs; whnf}); done) (by exact rfl) (by exact rfl) (by exact rfl) (by omega) (by simp [slcV]; omega) ?_ | refine b_iaN (by (conv => {lhs; whnf}); done) (by (conv => {lhs; whnf}); done) (by exact rfl) (by omega) ?_ | refine b_bldA (by (conv => {lhs; whnf}); done) (by (conv => {lhs; whnf}); done) ?_ | refine b_bslA (by (conv => {lhs; whnf}); done) (by exact rfl) ?_ | refine b_grow2 (i := 1) (N₀ := [(il ((dL n m more) ++ List.replicate ((srt (cM n m ((n + m - 1) / m) more more.length)).length - (dL n m more).length) 0))]) (l := ((prsL (dL n m more)).take k)) (l' := ((prsL (dL n m more)).take (k + 1))) (p := ((dL n m more).getD k 0, (dL n m more).getD (k + 1) 0 - (dL n m more).getD k 0)) (by (conv => {lhs; whnf}); done) (by exact rfl) (by exact rfl) (by exact rfl) (by simp [prsL_len]; omega) (by omega) (by exact rfl) (by exact rfl) (by exact take_prs (by omega)) ?_ | refine b_bslN (by exact rfl) (by exact rfl) (by decide) (by exact rfl) (by (conv => {lhs; whnf}); done) ?_ | (refine b_bin (by (conv => {lhs; whnf}); done) (by (conv => {lhs; whnf}); done) (by (conv => {lhs; whnf}); done) ?_; (first | refine v_T (by first | omega | (have := hkm k (by omega); omega) | fail) ?_ | refine v_F (by first | omega | (have := hK9; omega) | fail) ?_ | refine v_to (((k + 1) * m : Nat) : Int) (by have h1 := hkm k (by omega); have h2 := hkm' k (by omega); omega) (by have h2 := hkm' k (by omega); omega) ?_ | refine v_to ((k + 1 : Nat) : Int) (by omega) (by omega) ?_ | refine v_w (by have h1 := hdb k (by omega); have h2 := hdb (k + 1) (by omega); omega) ?_ | refine v_T (by omega) ?_ | refine v_F (by omega) ?_ | refine v_w (by omega) ?_ | refine v_wu (by omega) ?_ | refine v_k ?_ | refine v_c (by omega) ?_ | fail)) | (refine b_pick (by (conv => {lhs; whnf}); done) ?_; (first | refine p_T (by (conv => {lhs; whnf}); done) ?_ | refine p_F (by (conv => {lhs; whnf}); done) ?_ | fail)) | refine b_assignF (by kernel_rfl) ?_ | refine b_assignI ?_ | refine b_assignN ?_ | refine b_assign (by (conv => {lhs; whnf}); done) ?_ | refine b_callB ?_ | refine b_lenA (by (conv => {lhs; whnf}); done) (by first | rfl | assumption) ?_ | refine b_build ?_ | refine b_bslZ (by exact rfl) (by exact rfl) (by decide) ?_ | refine b_min2 (by first | (conv => {lhs; whnf}; done) | exact (by exact rfl) | fail) (by first | (conv => {lhs; whnf}; done) | exact (by exact rfl) | fail) (by first | assumption | exact rfl) ?_ | fail)) | refine d_nil ?_ | refine d_gT (by exact rfl) (by exact rfl) (by exact rfl) ?_ | refine d_gF (by exact rfl) (by exact rfl) (by exact rfl) (by exact rfl) ?_ | refine d_gU (by exact rfl) (by exact rfl) (by exact rfl) (by constructor <;> simp) (by exact rfl) (by exact rfl) ?_ | (refine d_g0 (by exact rfl) (by exact rfl) (by exact rfl) (by (conv => {lhs; whnf}); done) ?_; (first | refine dg_TT ?_ | refine dg_FF ?_ | refine dg_TF ?_ | refine dg_FT ?_ | refine dg_PT ?_ ?_ | refine dg_PF ?_ ?_ | refine dg_BT ?_ ?_ | refine dg_BF ?_ ?_ | fail)) | (refine d_g1 (by exact rfl) (by exact rfl) (by exact rfl) (by exact rfl) (by (conv => {lhs; whnf}); done) ?_; (first | refine dg_TT ?_ | refine dg_FF ?_ | refine dg_TF ?_ | refine dg_FT ?_ | refine dg_PT ?_ ?_ | refine dg_PF ?_ ?_ | refine dg_BT ?_ ?_ | refine dg_BF ?_ ?_ | fail)) | refine d_c1 (by exact rfl) (by exact rfl) ?_ | fail))
    | (refine gateC ?_; (first | refine k_lt ?_ | refine k_fz ?_ | refine k_lb (by (conv => {lhs; whnf}); done) ?_ | refine k_ms ?_ | refine k_bx (by exact rfl) (by exact rfl) ?_ | refine k_ld (by (conv => {lhs; whnf}); done) (by exact rfl) ?_ | refine k_ldT (by (conv => {lhs; whnf}); done) ?_ | refine k_bin (by (conv => {lhs; whnf}); done) (by exact rfl) ?_ | refine k_mn ?_ | refine k_mnB (by exact rfl) ?_ | refine k_mnF ?_ | refine k_mnL (by exact rfl) ?_ | fail))
    | (refine gateT ?_; (first | refine b_thn ?_ | refine b_thr ?_ | refine b_the ?_ | fail))
    | (refine gateX ?_; (first | refine b_seq ?_ | refine b_region ?_ | (refine b_cond (by (conv => {lhs; whnf}); done) ?_; (first | refine c_T ?_ | refine c_F ?_ | refine c_P ?_ ?_ | refine c_B ?_ ?_ | fail)) | refine b_ret ?_ | refine b_skip ?_ | refine b_block ?_ | refine b_exit ?_ | refine b_draw (id := 20) [] [13] [(0, .lt), (1, .lt), (2, .lt), (3, .lt), (4, .ld true), (5, .lt), (6, .lt), (7, .lt), (8, .lt), (9, .ld true), (10, .lt), (11, .lt), (12, .fz), (13, .mn false), (14, .lt)] (by kernel_rfl) ?_ | (refine b_loop [0, 1, 2, 7, 8] ((n + m - 1) / m) (fun k => ⟨[(0, .val (.int .i64 ((n : Nat) : Int))), (1, .val (.int .i64 size)), (2, .val P), (7, .val (.slm (H.length + 0) (cI n m k).length 0 (cI n m k).length 1)), (8, .val (.int .i64 ((k * m : Nat) : Int)))], [], H ++ [il (cI n m k)]⟩) (by first | exact (by exact rfl) | (simp only [Nat.zero_mul]; exact rfl)) ?_ ?_ <;> (first | intro k hk K hK | intro K) <;> (try dsimp only at *)) | (refine b_loop [0, 7, 38, 39, 40] more.length (fun k => ⟨[(0, .val (.int .i64 ((n : Nat) : Int))), (7, .val (.slm (H.length + 0) (cM n m ((n + m - 1) / m) more k).length 0 (cM n m ((n + m - 1) / m) more k).length 1)), (38, .val P), (39, .val (.int .i64 ((more.length : Nat) : Int))), (40, .val (.int .i64 ((k : Nat) : Int)))], [], H ++ [il (cM n m ((n + m - 1) / m) more k)]⟩) (by simp only [← hc0]; exact rfl) ?_ ?_ <;> (first | intro k hk K hK | intro K) <;> (try dsimp only at *)) | (refine b_loop [7, 11, 61, 62, 63] ((dL n m more).length - 1) (fun k => ⟨[(7, .val (.slm (H.length + 0) (cM n m ((n + m - 1) / m) more more.length).length 0 (dL n m more).length 1)), (11, .val (gV2 H.length 1 k)), (61, .val (.slm (H.length + 0) (cM n m ((n + m - 1) / m) more more.length).length 1 ((dL n m more).length - 1) 1)), (62, .val (.int .i64 (((dL n m more).length - 1 : Nat) : Int))), (63, .val (.int .i64 ((k : Nat) : Int)))], [], H ++ ([(il ((dL n m more) ++ List.replicate ((srt (cM n m ((n + m - 1) / m) more more.length)).length - (dL n m more).length) 0))] ++ gN (pl2 ((prsL (dL n m more)).take k)))⟩) (by exact rfl) ?_ ?_ <;> (first | intro k hk K hK | intro K) <;> (try dsimp only at *)) | fail))
    | refine a_cons (by (conv => {lhs; whnf}); done) ?_
    | refine a_nil ?_
    | (refine gateK ?_; (first | refine c_call (sort_c (H' := H ++ [il (srt (cM n m ((n + m - 1) / m) more more.length))]) (id := H.length + 0) (zs := (cM n m ((n + m - 1) / m) more more.length)) (hg_new (by exact rfl) rfl) (by exact rfl) (by omega) (hs_new (N' := [il (srt (cM n m ((n + m - 1) / m) more more.length))]) (by exact rfl) rfl)) (OldOk.app (by simp)) ?_ | refine c_call (compact_c (H' := H ++ [(il ((dL n m more) ++ List.replicate ((srt (cM n m ((n + m - 1) / m) more more.length)).length - (dL n m more).length) 0))]) (id := H.length + 0) (zs := srt (cM n m ((n + m - 1) / m) more more.length)) (hg_new (by exact rfl) rfl) hsz (by omega) (hs_new (N' := [(il ((dL n m more) ++ List.replicate ((srt (cM n m ((n + m - 1) / m) more more.length)).length - (dL n m more).length) 0))]) (by exact rfl) rfl)) (OldOk.app (by simp)) ?_ | fail))
    | refine fk_cons (by (conv => {lhs; whnf}); done) (by first | exact (by exact rfl) | exact cells_of_len hF.len | fail) (by exact rfl) (by exact rfl) (by (conv => {lhs; simp only [sc, List.set_cons_zero, List.set_cons_succ]}); done) ?_
    | refine fk_nil ?_
    | refine gk_consF (by kernel_rfl) ?_
    | refine gk_cons (by (conv => {lhs; whnf}); done) ?_
    | (refine gk_nilN (by (conv => {lhs; simp only [List.nil_append, List.cons_append]}); done) ?_; first | refine ⟨by exact rfl, ?_⟩ | skip)
    | refine gk_nil ?_
    | (intro N' hN'; simp only [List.nil_append, List.cons_append] at hN'; subst hN')
    | (refine gateB ?_; (first | refine b_bln ?_ | refine b_blr ?_ | refine b_ble ?_ | refine b_blo (by exact rfl) ?_ | fail))
    | (refine gateL ?_; (first | refine lp_n ?_ | refine lp_r ?_ | refine lp_e ?_ | fail))
    | (refine pr_k (by exact rfl) ?_; first | exact hK | (rw [hno k (by omega) (by omega)] at hK; exact hK) | (exfalso; first | omega | (simp_all; done) | (simp_all; omega)))
    | (refine gateQ ?_; refine b_retK (by simp) (by (conv => {lhs; whnf}); done) ?_)
    | (refine gateR ?_; (first | refine rk_tmp (by (conv => {lhs; whnf}); done) ?_ | refine rk_cellA (by (conv => {lhs; whnf}); done) (by exact rfl) (by exact rfl) ?_ | refine rk_cell1 (by (conv => {lhs; whnf}); done) (by exact rfl) (by exact rfl) ?_ | refine rk_nil ?_ | fail))
    | (refine ⟨by simp [oneC], fun N' hN' => ?_⟩; simp only [List.nil_append, List.cons_append] at hN'; subst hN')
    | intro _)
  all_goals first
    | (exfalso; omega)
    | (simp only [hT9]; refine rv_fr rfl ?_; exact gV2_fr (N₀ := [_]) (i := 1) rfl rfl (by simp [prsL_len]))


end Go.Sx

set_option linter.unusedVariables false
set_option linter.unusedSimpArgs false
set_option maxRecDepth 20000
namespace Go.Sx
open Go.Proofs
attribute [local irreducible] Ex exOps exD opX opE thenX blkX RetQ Spec CSpec Fr condK guardK guardD ckK valK pickK loadK faK callK argK gK fK rK RetV lpX prK
set_option maxHeartbeats 4000000 in
theorem rblk_b (H : List (List AV)) (P : AV) (more : List Int) (hP : IL H P more) (hml : more.length ≤ 1000) (n size : Int) (hn : -9223372036854775808 ≤ n ∧ n ≤ 9223372036854775807) (hs : -9223372036854775808 ≤ size ∧ size ≤ 9223372036854775807) (hbad : n < 1 ∨ 4096 < n ∨ size < 1) :
    CSpec Try.prog 80 [.int .i64 n, .int .i64 size, P] H (.sl none 0 (pl2 [])) H := by
  refine .mk (fun args w => Try.call80 args w) (Spec.intro' (fn := Try.f80) Try.func80 rfl (by kernel_rfl) (by simp) false [] (draw := drawX Try.prog ⟨false, _, []⟩) dOk ?_)
  simp only [argE, Nat.reduceAdd]
  repeat' (first
    | (refine gateE ?_; (first | (refine b_c0 ?_; (first | refine b_move (by (conv => {lhs; whnf}); done) ?_ | (refine b_load (by (conv => {lhs; whnf}); done) ?_; (first | refine l_loc1 (by exact rfl) (by exact rfl) ?_ | refine l_locA (by exact rfl) (by exact rfl) ?_ | fail)) | (refine b_binB (by first | (conv => {lhs; whnf}; done) | exact (by exact rfl) | fail) (by first | (conv => {lhs; whnf}; done) | exact (by exact rfl) | fail) ?_; (first | refine v_bbT (by exact rfl) ?_ | refine v_k ?_ | fail)) | (refine b_bin (by (conv => {lhs; whnf}); done) (by (conv => {lhs; whnf}); done) (by (conv => {lhs; whnf}); done) ?_; (first | refine v_eT (by omega) ?_ | refine v_eF (by omega) ?_ | refine v_eP ?_ | refine v_T (by omega) ?_ | refine v_F (by omega) ?_ | refine v_w (by omega) ?_ | refine v_wu (by omega) ?_ | refine v_mod (by omega) (by omega) ?_ | refine v_k ?_ | refine v_c (by omega) ?_ | fail)) | (refine b_pick (by (conv => {lhs; whnf}); done) ?_; (first | refine p_T (by (conv => {lhs; whnf}); done) ?_ | refine p_F (by (conv => {lhs; whnf}); done) ?_ | fail)) | refine b_assignF (by kernel_rfl) ?_ | refine b_assignI ?_ | refine b_assignN ?_ | refine b_assign (by (conv => {lhs; whnf}); done) ?_ | refine b_lenA (by (conv => {lhs; whnf}); done) (by first | rfl | assumption) ?_ | refine b_build ?_ | refine b_bslZ (by exact rfl) (by exact rfl) (by decide) ?_ | fail)) | refine b_nil ?_ | refine b_gT (by exact rfl) (by exact rfl) ?_ | refine b_gF (by exact rfl) (by exact rfl) (by exact rfl) ?_ | refine b_gU (by exact rfl) (by exact rfl) (by constructor <;> simp) (by exact rfl) (by exact rfl) ?_ | (refine b_g0 (by exact rfl) (by exact rfl) (by (conv => {lhs; whnf}); done) ?_; (first | refine g_TT ?_ | refine g_FF ?_ | refine g_TF ?_ | refine g_FT ?_ | refine g_PT ?_ ?_ | refine g_PF ?_ ?_ | refine g_BT ?_ ?_ | refine g_BF ?_ ?_ | fail)) | (refine b_g1 (by exact rfl) (by exact rfl) (by exact rfl) (by (conv => {lhs; whnf}); done) ?_; (first | refine g_TT ?_ | refine g_FF ?_ | refine g_TF ?_ | refine g_FT ?_ | refine g_PT ?_ ?_ | refine g_PF ?_ ?_ | refine g_BT ?_ ?_ | refine g_BF ?_ ?_ | fail)) | refine b_c1 (by exact rfl) ?_ | fail))
    | (refine gateO ?_; (first | refine b_move (by (conv => {lhs; whnf}); done) ?_ | (refine b_load (by (conv => {lhs; whnf}); done) ?_; (first | refine l_loc1 (by exact rfl) (by exact rfl) ?_ | refine l_locA (by exact rfl) (by exact rfl) ?_ | fail)) | (refine b_binB (by first | (conv => {lhs; whnf}; done) | exact (by exact rfl) | fail) (by first | (conv => {lhs; whnf}; done) | exact (by exact rfl) | fail) ?_; (first | refine v_bbT (by exact rfl) ?_ | refine v_k ?_ | fail)) | (refine b_bin (by (conv => {lhs; whnf}); done) (by (conv => {lhs; whnf}); done) (by (conv => {lhs; whnf}); done) ?_; (first | refine v_eT (by omega) ?_ | refine v_eF (by omega) ?_ | refine v_eP ?_ | refine v_T (by omega) ?_ | refine v_F (by omega) ?_ | refine v_w (by omega) ?_ | refine v_wu (by omega) ?_ | refine v_mod (by omega) (by omega) ?_ | refine v_k ?_ | refine v_c (by omega) ?_ | fail)) | (refine b_pick (by (conv => {lhs; whnf}); done) ?_; (first | refine p_T (by (conv => {lhs; whnf}); done) ?_ | refine p_F (by (conv => {lhs; whnf}); done) ?_ | fail)) | refine b_assignF (by kernel_rfl) ?_ | refine b_assignI ?_ | refine b_assignN ?_ | refine b_assign (by (conv => {lhs; whnf}); done) ?_ | refine b_lenA (by (conv => {lhs; whnf}); done) (by first | rfl | assumption) ?_ | refine b_build ?_ | refine b_bslZ (by exact rfl) (by exact rfl) (by decide) ?_ | fail))
    | (refine gateT ?_; (first | refine b_thn ?_ | refine b_thr ?_ | refine b_the ?_ | fail))
    | (refine gateX ?_; (first | refine b_seq ?_ | refine b_region ?_ | (refine b_cond (by (conv => {lhs; whnf}); done) ?_; (first | refine c_T ?_ | refine c_F ?_ | refine c_P ?_ ?_ | refine c_B ?_ ?_ | fail)) | refine b_ret ?_ | refine b_skip ?_ | refine b_block ?_ | refine b_exit ?_ | fail))
    | refine fk_cons (by (conv => {lhs; whnf}); done) (by first | exact (by exact rfl) | exact cells_of_len hF.len | fail) (by exact rfl) (by exact rfl) (by (conv => {lhs; simp only [sc, List.set_cons_zero, List.set_cons_succ]}); done) ?_
    | refine fk_nil ?_
    | refine gk_consF (by kernel_rfl) ?_
    | refine gk_cons (by (conv => {lhs; whnf}); done) ?_
    | (refine gk_nilN (by (conv => {lhs; simp only [List.nil_append, List.cons_append]}); done) ?_; first | refine ⟨by exact rfl, ?_⟩ | skip)
    | refine gk_nil ?_
    | (intro N' hN'; simp only [List.nil_append, List.cons_append] at hN'; subst hN')
    | (refine gateB ?_; (first | refine b_bln ?_ | refine b_blr ?_ | refine b_ble ?_ | refine b_blo (by exact rfl) ?_ | fail))
    | (refine gateL ?_; (first | refine lp_n ?_ | refine lp_r ?_ | refine lp_e ?_ | fail))
    | (refine pr_k (by exact rfl) ?_; first | exact hK | (exfalso; first | omega | (simp_all; done) | (simp_all; omega)))
    | (refine gateQ ?_; refine b_retK (by simp) (by (conv => {lhs; whnf}); done) ?_)
    | (refine gateR ?_; (first | refine rk_tmp (by (conv => {lhs; whnf}); done) ?_ | refine rk_cellA (by (conv => {lhs; whnf}); done) (by exact rfl) (by exact rfl) ?_ | refine rk_cell1 (by (conv => {lhs; whnf}); done) (by exact rfl) (by exact rfl) ?_ | refine rk_nil ?_ | fail))
    | intro _)
  all_goals first
    | (exfalso; omega)
    | (refine rv_fr (A := H) (N := []) rfl ?_; exact Fr.nil)

set_option maxHeartbeats 4000000 in
theorem rblk_0 (H : List (List AV)) (P : AV) (more : List Int) (hP : IL H P more) (hml : more.length ≤ 1000) (n m : Nat) (size : Int) (hn1 : 1 ≤ n) (hn4 : n ≤ 4096) (hs1 : 1 ≤ size) (hs2 : size ≤ 9223372036854775807) (hmin : min size (n : Int) = (m : Int)) :
    CSpec Try.prog 80 [.int .i64 (n : Int), .int .i64 size, P] H (.sl none ((dL n m more).length - 1) (pl2 (prsL (dL n m more)))) H := by
  have hm0 : 0 < m := by omega
  have hmn : (m : Int) = min size (n : Int) := hmin.symm
  have hPl := hP.len
  have hE : (refD (cutP n m more) n) = (dL n m more) := refD_eq hm0 (by omega) more
  rw [← prsL_len, ← hE]
  have hcut : ∀ k, k < n → (bq n size more (k + 1) more.length = true ↔ (cutP n m more) ((k + 1 : Nat) : Int)) := fun k hk => bq_cut hs1 hmn (by omega) (by omega)
  have hl := fun k => (refD_last (cutP n m more) k).2
  have hb1 : ∀ k, ((k + 1 : Nat) : Int) = (n : Int) → bq n size more (k + 1) 0 = true := fun k h => by unfold bq; rw [List.take_zero, List.any_nil, Bool.or_false]; exact decide_eq_true (.inl h)
  have hb2 : ∀ k, ¬ ((k + 1 : Nat) : Int) = (n : Int) → size ≤ (n : Int) → bq n size more (k + 1) 0 = decide (((k + 1 : Nat) : Int) % size = 0) := fun k h h' => by unfold bq; rw [List.take_zero, List.any_nil, Bool.or_false]; exact decide_eq_decide.2 ⟨fun hh => hh.elim (fun a => absurd a h) (fun a => a.2), fun hh => .inr ⟨h', hh⟩⟩
  have hb3 : ∀ k, ¬ ((k + 1 : Nat) : Int) = (n : Int) → ¬ size ≤ (n : Int) → bq n size more (k + 1) 0 = false := fun k h h' => by unfold bq; rw [List.take_zero, List.any_nil, Bool.or_false]; exact decide_eq_false fun hh => hh.elim h (fun a => h' a.1)
  have hy0 : ∀ k, k < n → bq n size more (k + 1) more.length = true → prsL (refD (cutP n m more) k) ++ [(lstD (cutP n m more) k, ((k + 1 : Nat) : Int) - lstD (cutP n m more) k)] = prsL (refD (cutP n m more) (k + 1)) := fun k hk h => (refD_yes ((hcut k hk).1 h)).1.symm
  have hy1 : ∀ k, k < n → bq n size more (k + 1) more.length = true → (prsL (refD (cutP n m more) (k + 1))).length = (prsL (refD (cutP n m more) k)).length + 1 := fun k hk h => by rw [← hy0 k hk h]; simp
  have hy2 : ∀ k, k < n → bq n size more (k + 1) more.length = true → lstD (cutP n m more) (k + 1) = ((k + 1 : Nat) : Int) := fun k hk h => (refD_yes ((hcut k hk).1 h)).2
  have hn0 : ∀ k, k < n → bq n size more (k + 1) more.length = false → (refD (cutP n m more) (k + 1)) = (refD (cutP n m more) k) ∧ lstD (cutP n m more) (k + 1) = lstD (cutP n m more) k := fun k hk h => refD_not fun hc => by rw [(hcut k hk).2 hc] at h; cases h
  have hlen : ∀ k, k ≤ n → (prsL (refD (cutP n m more) k)).length ≤ 4096 := fun k hk => by
    have h0 : (cutP n m more) 0 := .inr (.inl ⟨0, by omega, by simp⟩)
    have : ∀ j, (prsL (refD (cutP n m more) j)).length ≤ j := fun j => by
      induction j with
      | zero => simp [refD, prsL]
      | succ j ih =>
        by_cases hS : (cutP n m more) ((j + 1 : Nat) : Int)
        · rw [(refD_yes hS).1]; simp; omega
        · rw [(refD_not hS).1]; omega
    have := this k; omega
  refine .mk (fun args w => Try.call80 args w) (Spec.intro' (fn := Try.f80) Try.func80 rfl (by kernel_rfl) (by simp) false [64] (draw := drawX Try.prog ⟨false, _, [64]⟩) dOk ?_)
  simp only [argE, Nat.reduceAdd]
  repeat' (first
    | (refine gateE ?_; (first | (refine b_c0 ?_; (first | refine b_move (by (conv => {lhs; whnf}); done) ?_ | (refine b_load (by (conv => {lhs; whnf}); done) ?_; (first | refine l_loc1 (by exact rfl) (by exact rfl) ?_ | refine l_locA (by exact rfl) (by exact rfl) ?_ | refine l_IL (hP.app _) (by omega) ?_ | fail)) | refine b_lenA (by (conv => {lhs; whnf}); done) (by exact hPl) ?_ | refine b_iaN (by (conv => {lhs; whnf}); done) (by (conv => {lhs; whnf}); done) (by exact hPl) (by omega) ?_ | refine b_bldA (by (conv => {lhs; whnf}); done) (by (conv => {lhs; whnf}); done) ?_ | refine b_bslA (by (conv => {lhs; whnf}); done) (by exact rfl) ?_ | refine b_grow2 (i := 0) (N₀ := []) (l := prsL (refD (cutP n m more) k)) (l' := prsL (refD (cutP n m more) (k + 1))) (p := (lstD (cutP n m more) k, ((k + 1 : Nat) : Int) - lstD (cutP n m more) k)) (by (conv => {lhs; whnf}); done) (by exact rfl) (by exact rfl) (by exact rfl) (by exact rfl) (by have := hlen k (by omega); omega) (by exact rfl) (by exact rfl) (by exact hy0 k (by omega) (by assumption)) ?_ | (refine b_binB (by first | (conv => {lhs; whnf}; done) | exact (by exact rfl) | fail) (by first | (conv => {lhs; whnf}; done) | exact (by exact rfl) | fail) ?_; (first | refine v_to ((k + 1 : Nat) : Int) (by omega) (by omega) ?_ | refine v_to ((t + 1 : Nat) : Int) (by omega) (by omega) ?_ | refine v_to ((k + 1 + 1 : Nat) : Int) (by omega) (by omega) ?_ | refine v_mod (by omega) (by omega) ?_ | refine v_w (by have := hl k; omega) ?_ | refine v_bbT (by exact rfl) ?_ | refine v_k ?_ | fail)) | (refine b_bin (by (conv => {lhs; whnf}); done) (by (conv => {lhs; whnf}); done) (by (conv => {lhs; whnf}); done) ?_; (first | refine v_to ((k + 1 : Nat) : Int) (by omega) (by omega) ?_ | refine v_to ((t + 1 : Nat) : Int) (by omega) (by omega) ?_ | refine v_to ((k + 1 + 1 : Nat) : Int) (by omega) (by omega) ?_ | refine v_mod (by omega) (by omega) ?_ | refine v_w (by have := hl k; omega) ?_ | refine v_eT (by omega) ?_ | refine v_eF (by omega) ?_ | refine v_eP ?_ | refine v_T (by omega) ?_ | refine v_F (by omega) ?_ | refine v_w (by omega) ?_ | refine v_wu (by omega) ?_ | refine v_mod (by omega) (by omega) ?_ | refine v_k ?_ | refine v_c (by omega) ?_ | fail)) | (refine b_pick (by (conv => {lhs; whnf}); done) ?_; (first | refine p_T (by (conv => {lhs; whnf}); done) ?_ | refine p_F (by (conv => {lhs; whnf}); done) ?_ | fail)) | refine b_assignF (by kernel_rfl) ?_ | refine b_assignI ?_ | refine b_assignN ?_ | refine b_assign (by (conv => {lhs; whnf}); done) ?_ | refine b_lenA (by (conv => {lhs; whnf}); done) (by first | rfl | assumption) ?_ | refine b_build ?_ | refine b_bslZ (by exact rfl) (by exact rfl) (by decide) ?_ | fail)) | refine b_nil ?_ | refine b_gT (by exact rfl) (by exact rfl) ?_ | refine b_gF (by exact rfl) (by exact rfl) (by exact rfl) ?_ | refine b_gU (by exact rfl) (by exact rfl) (by constructor <;> simp) (by exact rfl) (by exact rfl) ?_ | (refine b_g0 (by exact rfl) (by exact rfl) (by (conv => {lhs; whnf}); done) ?_; (first | refine g_TT ?_ | refine g_FF ?_ | refine g_TF ?_ | refine g_FT ?_ | refine g_PT ?_ ?_ | refine g_PF ?_ ?_ | refine g_BT ?_ ?_ | refine g_BF ?_ ?_ | fail)) | (refine b_g1 (by exact rfl) (by exact rfl) (by exact rfl) (by (conv => {lhs; whnf}); done) ?_; (first | refine g_TT ?_ | refine g_FF ?_ | refine g_TF ?_ | refine g_FT ?_ | refine g_PT ?_ ?_ | refine g_PF ?_ ?_ | refine g_BT ?_ ?_ | refine g_BF ?_ ?_ | fail)) | refine b_c1 (by exact rfl) ?_ | fail))
    | (refine gateO ?_; (first | refine b_move (by (conv => {lhs; whnf}); done) ?_ | (refine b_load (by (conv => {lhs; whnf}); done) ?_; (first | refine l_loc1 (by exact rfl) (by exact rfl) ?_ | refine l_locA (by exact rfl) (by exact rfl) ?_ | refine l_IL (hP.app _) (by omega) ?_ | fail)) | refine b_lenA (by (conv => {lhs; whnf}); done) (by exact hPl) ?_ | refine b_iaN (by (conv => {lhs; whnf}); done) (by (conv => {lhs; whnf}); done) (by exact hPl) (by omega) ?_ | refine b_bldA (by (conv => {lhs; whnf}); done) (by (conv => {lhs; whnf}); done) ?_ | refine b_bslA (by (conv => {lhs; whnf}); done) (by exact rfl) ?_ | refine b_grow2 (i := 0) (N₀ := []) (l := prsL (refD (cutP n m more) k)) (l' := prsL (refD (cutP n m more) (k + 1))) (p := (lstD (cutP n m more) k, ((k + 1 : Nat) : Int) - lstD (cutP n m more) k)) (by (conv => {lhs; whnf}); done) (by exact rfl) (by exact rfl) (by exact rfl) (by exact rfl) (by have := hlen k (by omega); omega) (by exact rfl) (by exact rfl) (by exact hy0 k (by omega) (by assumption)) ?_ | (refine b_binB (by first | (conv => {lhs; whnf}; done) | exact (by exact rfl) | fail) (by first | (conv => {lhs; whnf}; done) | exact (by exact rfl) | fail) ?_; (first | refine v_to ((k + 1 : Nat) : Int) (by omega) (by omega) ?_ | refine v_to ((t + 1 : Nat) : Int) (by omega) (by omega) ?_ | refine v_to ((k + 1 + 1 : Nat) : Int) (by omega) (by omega) ?_ | refine v_mod (by omega) (by omega) ?_ | refine v_w (by have := hl k; omega) ?_ | refine v_bbT (by exact rfl) ?_ | refine v_k ?_ | fail)) | (refine b_bin (by (conv => {lhs; whnf}); done) (by (conv => {lhs; whnf}); done) (by (conv => {lhs; whnf}); done) ?_; (first | refine v_to ((k + 1 : Nat) : Int) (by omega) (by omega) ?_ | refine v_to ((t + 1 : Nat) : Int) (by omega) (by omega) ?_ | refine v_to ((k + 1 + 1 : Nat) : Int) (by omega) (by omega) ?_ | refine v_mod (by omega) (by omega) ?_ | refine v_w (by have := hl k; omega) ?_ | refine v_eT (by omega) ?_ | refine v_eF (by omega) ?_ | refine v_eP ?_ | refine v_T (by omega) ?_ | refine v_F (by omega) ?_ | refine v_w (by omega) ?_ | refine v_wu (by omega) ?_ | refine v_mod (by omega) (by omega) ?_ | refine v_k ?_ | refine v_c (by omega) ?_ | fail)) | (refine b_pick (by (conv => {lhs; whnf}); done) ?_; (first | refine p_T (by (conv => {lhs; whnf}); done) ?_ | refine p_F (by (conv => {lhs; whnf}); done) ?_ | fail)) | refine b_assignF (by kernel_rfl) ?_ | refine b_assignI ?_ | refine b_assignN ?_ | refine b_assign (by (conv => {lhs; whnf}); done) ?_ | refine b_lenA (by (conv => {lhs; whnf}); done) (by first | rfl | assumption) ?_ | refine b_build ?_ | refine b_bslZ (by exact rfl) (by exact rfl) (by decide) ?_ | fail))
    | (refine gateT ?_; (first | refine b_thn ?_ | refine b_thr ?_ | refine b_the ?_ | fail))
    | (refine gateX ?_; (first | refine b_seq ?_ | refine b_region ?_ | (refine b_cond (by (conv => {lhs; whnf}); done) ?_; (first | refine c_T ?_ | refine c_F ?_ | refine c_P ?_ ?_ | refine c_B ?_ ?_ | fail)) | refine b_ret ?_ | refine b_skip ?_ | refine b_block ?_ | refine b_exit ?_ | (refine b_loop [0, 1, 2, 7, 8, 9, 10, 11] more.length (fun t => ⟨[(0, .val (.int .i64 ((n : Nat) : Int))), (1, .val (.int .i64 size)), (2, .val P), (7, .val (gV2 H.length 0 (prsL (refD (cutP n m more) k)).length)), (8, .val (.int .i64 (lstD (cutP n m more) k))), (9, .val (.int .i64 ((k + 1 : Nat) : Int))), (10, .val (.bool (bq n size more (k + 1) t))), (11, .val (.int .i64 ((t : Nat) : Int)))], [], H ++ ([] ++ gN (pl2 (prsL (refD (cutP n m more) k))))⟩) (by first | (simp only [hb1 k (by assumption)]; exact rfl) | (simp only [hb2 k (by assumption) (by assumption)]; exact rfl) | (simp only [hb3 k (by assumption) (by assumption)]; exact rfl)) ?_ ?_ <;> (first | intro t ht K hK | intro K) <;> (try dsimp only at *)) | (refine b_loop [0, 1, 2, 7, 8, 9] n (fun k => ⟨[(0, .val (.int .i64 ((n : Nat) : Int))), (1, .val (.int .i64 size)), (2, .val P), (7, .val (gV2 H.length 0 (prsL (refD (cutP n m more) k)).length)), (8, .val (.int .i64 (lstD (cutP n m more) k))), (9, .val (.int .i64 ((k + 1 : Nat) : Int)))], [], H ++ ([] ++ gN (pl2 (prsL (refD (cutP n m more) k))))⟩) (by exact rfl) ?_ ?_ <;> (first | intro k hk K hK | intro K) <;> (try dsimp only at *)) | fail))
    | refine fk_cons (by (conv => {lhs; whnf}); done) (by first | exact (by exact rfl) | exact cells_of_len hF.len | fail) (by exact rfl) (by exact rfl) (by (conv => {lhs; simp only [sc, List.set_cons_zero, List.set_cons_succ]}); done) ?_
    | refine fk_nil ?_
    | refine gk_consF (by kernel_rfl) ?_
    | refine gk_cons (by (conv => {lhs; whnf}); done) ?_
    | (refine gk_nilN (by (conv => {lhs; simp only [List.nil_append, List.cons_append]}); done) ?_; first | refine ⟨by exact rfl, ?_⟩ | skip)
    | refine gk_nil ?_
    | (intro N' hN'; simp only [List.nil_append, List.cons_append] at hN'; subst hN')
    | (refine gateB ?_; (first | refine b_bln ?_ | refine b_blr ?_ | refine b_ble ?_ | refine b_blo (by exact rfl) ?_ | fail))
    | (refine gateL ?_; (first | refine lp_n ?_ | refine lp_r ?_ | refine lp_e ?_ | fail))
    | (refine pr_k (by exact rfl) ?_; first | exact hK | (rw [bq_T (by assumption)] at hK; exact hK) | (rw [bq_F (by assumption) (by omega)] at hK; exact hK) | (rw [hy1 k (by omega) (by assumption), hy2 k (by omega) (by assumption)] at hK; exact hK) | (rw [(hn0 k (by omega) (by assumption)).1, (hn0 k (by omega) (by assumption)).2] at hK; exact hK) | (exfalso; first | omega | (simp_all; done) | (simp_all; omega)))
    | (refine gateQ ?_; refine b_retK (by simp) (by (conv => {lhs; whnf}); done) ?_)
    | (refine gateR ?_; (first | refine rk_tmp (by (conv => {lhs; whnf}); done) ?_ | refine rk_cellA (by (conv => {lhs; whnf}); done) (by exact rfl) (by exact rfl) ?_ | refine rk_cell1 (by (conv => {lhs; whnf}); done) (by exact rfl) (by exact rfl) ?_ | refine rk_nil ?_ | fail))
    | intro _)
  all_goals first
    | (exfalso; omega)
    | (refine rv_fr rfl ?_; exact gV2_fr (N₀ := []) (i := 0) rfl rfl rfl)


end Go.Sx

set_option linter.unusedVariables false
set_option maxRecDepth 20000
namespace Go.Sx
open Go.Proofs
def fzL : List (Nat × List Nat) := [(79, [36, 53, 80])]
def escL : List Nat := [163, 164]
def ordL : List (Nat × Nat × List Nat × (Bool × List Nat) × List (Nat × List Nat) × List Nat × DTr) := [(79, 20, [], (false, []), [], [13], .lin [(0, .lt), (1, .lt), (2, .lt), (3, .lt), (4, .ld true), (5, .lt), (6, .lt), (7, .lt), (8, .lt), (9, .ld true), (10, .lt), (11, .lt), (12, .fz), (13, .mn false), (14, .lt)]),
  (134, 6, [], (false, []), [], [], .lin [(0, .lt), (1, .lt), (2, .lt), (3, .ld true), (4, .lt), (5, .lt), (6, .lt), (7, .lt), (8, .ld true), (9, .ld true)]),
  (134, 11, [], (false, []), [], [], .lin [(0, .lt), (1, .lt), (2, .lt), (3, .ld true), (4, .lt), (5, .lt), (6, .lt), (7, .lt), (8, .ld true), (9, .ld true)]),
  (156, 17, [], (false, []), [], [], .lin [(0, .lt), (1, .lt), (2, .lt), (3, .lt), (4, .lt), (5, .lt), (6, .lt), (7, .ld true), (8, .lt), (9, .lt), (10, .lt), (11, .ld true), (12, .mn true), (13, .lt), (14, .lt)]),
  (161, 4, [], (false, []), [], [], .lin [(0, .lt), (1, .lt), (2, .lt), (3, .lt), (4, .lt), (5, .lt), (6, .lt), (7, .ld true), (8, .lt), (9, .lt), (10, .lt), (11, .lt), (12, .ld true), (13, .mn true), (14, .lt)]),
  (161, 6, [], (false, []), [], [15, 17], .lin [(0, .lt), (1, .lt), (2, .lt), (3, .lt), (4, .lt), (5, .lt), (6, .lt), (7, .lt), (8, .lt), (9, .ld true), (10, .lt), (11, .lt), (12, .lt), (13, .ld true), (14, .lt), (15, .mn false), (16, .lt), (17, .mn false)]),
  (162, 10, [], (false, []), [], [17, 19], .lin [(0, .lt), (1, .lt), (2, .lt), (3, .lt), (4, .lt), (5, .lt), (6, .lt), (7, .lt), (8, .lt), (9, .lt), (10, .lt), (11, .ld true), (12, .lt), (13, .lt), (14, .lt), (15, .ld true), (16, .lt), (17, .mn false), (18, .lt), (19, .mn false)]),
  (163, 10, [], (false, []), [], [17, 19], .lin [(0, .lt), (1, .lt), (2, .lt), (3, .lt), (4, .lt), (5, .lt), (6, .lt), (7, .lt), (8, .lt), (9, .lt), (10, .lt), (11, .ld true), (12, .lt), (13, .lt), (14, .lt), (15, .ld true), (16, .lt), (17, .mn false), (18, .lt), (19, .mn false)]),
  (165, 3, [], (false, []), [], [13, 15], .lin [(0, .lt), (1, .lt), (2, .lt), (3, .lt), (4, .lt), (5, .lt), (6, .lt), (7, .ld true), (8, .lt), (9, .lt), (10, .lt), (11, .ld true), (12, .lt), (13, .mn false), (14, .lt), (15, .mn false)]),
  (166, 5, [], (false, []), [], [], .lin [(0, .lt), (1, .lt), (2, .lt), (3, .lt), (4, .lt), (5, .lt), (6, .lt), (7, .ld true), (8, .lt), (9, .lt), (10, .lt), (11, .lt), (12, .ld true), (13, .mn true), (14, .lt), (15, .lt)]),
  (166, 11, [], (false, []), [], [15, 17], .lin [(0, .lt), (1, .lt), (2, .lt), (3, .lt), (4, .lt), (5, .lt), (6, .lt), (7, .lt), (8, .lt), (9, .ld true), (10, .lt), (11, .lt), (12, .lt), (13, .ld true), (14, .lt), (15, .mn false), (16, .lt), (17, .mn false)]),
  (166, 16, [], (false, []), [], [], .lin [(0, .lt), (1, .lt), (2, .lt), (3, .ld true), (4, .lt), (5, .lt), (6, .lt), (7, .lt), (8, .ld true), (9, .mn true), (10, .lt)]),
  (166, 17, [], (false, []), [], [15, 17], .lin [(0, .lt), (1, .lt), (2, .lt), (3, .lt), (4, .lt), (5, .lt), (6, .lt), (7, .lt), (8, .lt), (9, .ld true), (10, .lt), (11, .lt), (12, .lt), (13, .ld true), (14, .lt), (15, .mn false), (16, .lt), (17, .mn false)]),
  (166, 22, [], (false, []), [], [], .lin [(0, .lt), (1, .lt), (2, .lt), (3, .ld true), (4, .lt), (5, .lt), (6, .lt), (7, .lt), (8, .ld true), (9, .mn true), (10, .lt)]),
  (166, 23, [], (false, []), [], [15, 17], .lin [(0, .lt), (1, .lt), (2, .lt), (3, .lt), (4, .lt), (5, .lt), (6, .lt), (7, .lt), (8, .lt), (9, .ld true), (10, .lt), (11, .lt), (12, .lt), (13, .ld true), (14, .lt), (15, .mn false), (16, .lt), (17, .mn false)]),
  (168, 1, [], (false, []), [], [13, 15], .lin [(0, .lt), (1, .lt), (2, .lt), (3, .lt), (4, .lt), (5, .lt), (6, .lt), (7, .ld true), (8, .lt), (9, .lt), (10, .lt), (11, .ld true), (12, .lt), (13, .mn false), (14, .lt), (15, .mn false)]),
  (168, 3, [], (false, []), [], [], .lin [(0, .lt), (1, .lt), (2, .lt), (3, .lt), (4, .lt), (5, .lt), (6, .lt), (7, .ld true), (8, .lt), (9, .lt), (10, .lt), (11, .ld true), (12, .mn true), (13, .lt), (14, .lt)]),
  (168, 5, [], (false, []), [], [], .lin [(0, .lt), (1, .lt), (2, .lt), (3, .lt), (4, .lt), (5, .lt), (6, .lt), (7, .ld true), (8, .lt), (9, .lt), (10, .lt), (11, .ld true), (12, .mn true), (13, .lt)]),
  (168, 8, [], (false, []), [], [13, 15], .lin [(0, .lt), (1, .lt), (2, .lt), (3, .lt), (4, .lt), (5, .lt), (6, .lt), (7, .ld true), (8, .lt), (9, .lt), (10, .lt), (11, .ld true), (12, .lt), (13, .mn false), (14, .lt), (15, .mn false)]),
  (169, 1, [], (false, []), [], [13, 15], .lin [(0, .lt), (1, .lt), (2, .lt), (3, .lt), (4, .lt), (5, .lt), (6, .lt), (7, .ld true), (8, .lt), (9, .lt), (10, .lt), (11, .ld true), (12, .lt), (13, .mn false), (14, .lt), (15, .mn false)]),
  (169, 3, [], (false, []), [], [], .lin [(0, .lt), (1, .lt), (2, .lt), (3, .lt), (4, .lt), (5, .lt), (6, .lt), (7, .ld true), (8, .lt), (9, .lt), (10, .lt), (11, .ld true), (12, .mn true), (13, .lt)]),
  (169, 5, [], (false, []), [], [], .lin [(0, .lt), (1, .lt), (2, .lt), (3, .lt), (4, .lt), (5, .lt), (6, .lt), (7, .ld true), (8, .lt), (9, .lt), (10, .lt), (11, .ld true), (12, .mn true), (13, .lt), (14, .lt)]),
  (169, 8, [], (false, []), [], [13, 15], .lin [(0, .lt), (1, .lt), (2, .lt), (3, .lt), (4, .lt), (5, .lt), (6, .lt), (7, .ld true), (8, .lt), (9, .lt), (10, .lt), (11, .ld true), (12, .lt), (13, .mn false), (14, .lt), (15, .mn false)]),
  (169, 10, [], (false, []), [], [13, 15], .lin [(0, .lt), (1, .lt), (2, .lt), (3, .lt), (4, .lt), (5, .lt), (6, .lt), (7, .ld true), (8, .lt), (9, .lt), (10, .lt), (11, .ld true), (12, .lt), (13, .mn false), (14, .lt), (15, .mn false)]),
  (169, 13, [], (false, []), [], [], .lin [(0, .lt), (1, .lt), (2, .lt), (3, .lt), (4, .lt), (5, .lt), (6, .lt), (7, .ld true), (8, .lt), (9, .lt), (10, .lt), (11, .ld true), (12, .mn true), (13, .lt)]),
  (169, 15, [], (false, []), [], [], .lin [(0, .lt), (1, .lt), (2, .lt), (3, .lt), (4, .lt), (5, .lt), (6, .lt), (7, .ld true), (8, .lt), (9, .lt), (10, .lt), (11, .ld true), (12, .mn true), (13, .lt), (14, .lt)]),
  (169, 18, [], (false, []), [], [13, 15], .lin [(0, .lt), (1, .lt), (2, .lt), (3, .lt), (4, .lt), (5, .lt), (6, .lt), (7, .ld true), (8, .lt), (9, .lt), (10, .lt), (11, .ld true), (12, .lt), (13, .mn false), (14, .lt), (15, .mn false)]),
  (169, 21, [], (false, []), [], [13, 15], .lin [(0, .lt), (1, .lt), (2, .lt), (3, .lt), (4, .lt), (5, .lt), (6, .lt), (7, .ld true), (8, .lt), (9, .lt), (10, .lt), (11, .ld true), (12, .lt), (13, .mn false), (14, .lt), (15, .mn false)]),
  (172, 3, [], (false, []), [], [], .lin [(0, .lt), (1, .lt), (2, .lt), (3, .lt), (4, .lt), (5, .lt), (6, .lt), (7, .lt), (8, .lt), (9, .lt), (10, .ld true), (11, .lt), (12, .lt), (13, .lt), (14, .lt), (15, .lt), (16, .lt), (17, .ld true), (18, .mn true), (19, .lt)]),
  (172, 5, [], (false, []), [], [], .lin [(0, .lt), (1, .lt), (2, .lt), (3, .lt), (4, .lt), (5, .ld true), (6, .lt), (7, .lt), (8, .lt), (9, .lt), (10, .lt), (11, .ld true), (12, .mn true), (13, .lt)]),
  (172, 6, [], (false, []), [], [21, 23], .lin [(0, .lt), (1, .lt), (2, .lt), (3, .lt), (4, .lt), (5, .lt), (6, .lt), (7, .lt), (8, .lt), (9, .lt), (10, .lt), (11, .lt), (12, .lt), (13, .ld true), (14, .lt), (15, .lt), (16, .lt), (17, .lt), (18, .lt), (19, .ld true), (20, .lt), (21, .mn false), (22, .lt), (23, .mn false)]),
  (174, 1, [], (false, []), [], [9], .lin [(0, .lt), (1, .lt), (2, .ld true), (3, .lt), (4, .lt), (5, .ld true), (6, .lt), (7, .lt), (8, .lt), (9, .mn false)]),
  (174, 2, [], (false, []), [], [9], .lin [(0, .lt), (1, .lt), (2, .ld true), (3, .lt), (4, .lt), (5, .ld true), (6, .lt), (7, .lt), (8, .lt), (9, .mn false)]),
  (174, 3, [], (false, []), [], [9], .lin [(0, .lt), (1, .lt), (2, .ld true), (3, .lt), (4, .lt), (5, .ld true), (6, .lt), (7, .lt), (8, .lt), (9, .mn false)]),
  (178, 1, [], (false, []), [], [], .lin [(0, .lt), (1, .lt), (2, .lt), (3, .ld true), (4, .lt), (5, .lt), (6, .lt), (7, .ld true), (8, .mn true)])]
def frzL : List Nat := []
def intrT (f : Nat) (args : List AV) : Option AV :=
  if Nat.beq f 96 then (match args with
    | [.fraw b] => some (.int .u64 b)
    | [.flt b] => if isNaN b then none else some (.int .u64 b)
    | _ => none)
  else if Nat.beq f 108 then (match args with
    | [.int .u64 n] => if 0 ≤ n ∧ n ≤ 18446744073709551615 then some (.fraw n.toNat) else none
    | _ => none)
  else none
def runT : RunT := ⟨fun f => escL.contains f, ordF ordL, intrT, fun f => (lk fzL f).getD [], fun f => !frzL.contains f⟩
theorem intr_ok (f : Nat) (args : List AV) (r : AV) (H : List (List AV)) (h : intrT f args = some r) : CSpec Try.prog f args H r H := by
  unfold intrT at h
  split at h
  · rename_i hb
    have := Nat.eq_of_beq_eq_true hb; subst this
    split at h
    · cases h; exact xbits_raw Try.func96 (by kernel_rfl) (by kernel_rfl) (by kernel_rfl) (by kernel_rfl) H _
    · split at h
      · cases h
      · rename_i hn; cases h; exact xbits_flt Try.func96 (by kernel_rfl) (by kernel_rfl) (by kernel_rfl) (by kernel_rfl) H _ hn
    · cases h
  · split at h
    · rename_i hb
      have := Nat.eq_of_beq_eq_true hb; subst this
      split at h
      · split at h
        · rename_i hn; cases h; exact xfrom Try.func108 (by kernel_rfl) (by kernel_rfl) (by kernel_rfl) (by kernel_rfl) H _ hn
        · cases h
      · cases h
    · cases h
theorem run_78 : runF Try.prog runT 100000 60 78 [] [] = some (.bool true, []) := by kernel_rfl
theorem run_78_c (H : List (List AV)) : CSpec Try.prog 78 [] H (.bool true) H := runF_c fol intr_ok 100000 60 78 _ _ (by kernel_rfl) (by kernel_rfl) run_78 H
end Go.Sx
