/- The document's Merge: its bytes told one by one; its memory. -/
import Derived.Test.YtkpcnfchhnfpoaaDoorMrg
import Derived.Lib.SlBytesRow
import Derived.Laws.MakeOwn
set_option linter.unusedVariables false
namespace Go.Proofs.YtkpcnfchhnfpoaaDoor
open Go.RowKit Go.Proofs.YtkpcnfchhnfpoaaDoor.Sep
namespace Log
/-- The byte at j, as a number. -/
def bat (s : ByteArray) (j : Nat) : Int := if h : j < s.size then (s[j].toNat : Int) else 0
theorem bat_of {s : ByteArray} {j : Nat} (h : j < s.size) : bat s j = (s[j].toNat : Int) := dif_pos h
theorem bat_ext {s t : ByteArray} (hs : s.size = t.size) (h : ∀ j, j < s.size → bat s j = bat t j) : s = t := by
  apply ByteArray.ext_getElem hs
  intro j h1 h2
  have h3 := h j h1
  rw [bat_of h1, bat_of h2] at h3
  exact UInt8.toNat_inj.1 (by omega)
theorem bat_extract {s : ByteArray} {a b j : Nat} (hj : a + j < b) (hb : b ≤ s.size) : bat (s.extract a b) j = bat s (a + j) := by
  have h1 : j < (s.extract a b).size := by rw [ext_size (by omega) hb]; omega
  rw [bat_of h1, bat_of (by omega), ByteArray.getElem_extract]
/-- Where the two texts lie over one another they are one. -/
def agr (X Y : Nat) (ai bo : ByteArray) : Prop := ∀ j, j < bo.size → X ≤ Y + j → Y + j < X + ai.size → bat bo j = bat ai (Y + j - X)
def doc (n X Y : Nat) (ao ai bo bi : ByteArray) : Delta := ((n : Int), bo.extract 0 X ++ ao ++ bo.extract (X + ai.size - Y) bo.size, ai.extract 0 Y ++ bi ++ ai.extract (Y + bo.size - X) ai.size)
theorem toList_eq {a b : ByteArray} : (a.toList == b.toList) = true ↔ a = b := by
  rw [beq_iff_eq, ByteArray.toList_eq, ByteArray.toList_eq]
  constructor
  · intro h
    apply ByteArray.ext
    exact Array.toList_inj.1 h
  · rintro rfl
    rfl
theorem ok_f {d : Nat} {ai bo : ByteArray} (hd : d ≤ ai.size) : mOkF d ai bo = true ↔ agr 0 d ai bo := by
  unfold mOkF agr
  rw [Bool.and_eq_true, Bool.or_eq_true, decide_eq_true_iff, decide_eq_true_iff, toList_eq]
  constructor
  · rintro ⟨-, h | h⟩ j hj h0 h1
    · omega
    · have e := congrArg (fun s => bat s j) h
      rw [bat_extract (by omega) (by omega), bat_extract (by omega) (by omega)] at e
      rw [Nat.sub_zero, e, Nat.zero_add]
  · intro h
    refine ⟨hd, ?_⟩
    by_cases h0 : min ai.size (d + bo.size) ≤ d
    · exact .inl h0
    · refine .inr (bat_ext ?_ fun j hj => ?_)
      · rw [ext_size (by omega) (by omega), ext_size (by omega) (by omega)]
        omega
      · rw [ext_size (by omega) (by omega)] at hj
        rw [bat_extract (by omega) (by omega), bat_extract (by omega) (by omega), Nat.zero_add, h j (by omega) (by omega) (by omega), Nat.sub_zero]
theorem ok_b {d : Nat} {ai bo : ByteArray} (hd : d ≤ bo.size) : mOkB d ai bo = true ↔ agr d 0 ai bo := by
  unfold mOkB agr
  rw [Bool.and_eq_true, Bool.or_eq_true, decide_eq_true_iff, decide_eq_true_iff, toList_eq]
  constructor
  · rintro ⟨-, h | h⟩ j hj h0 h1
    · omega
    · have e := congrArg (fun s => bat s (j - d)) h
      rw [bat_extract (by omega) (by omega), bat_extract (by omega) (by omega)] at e
      rw [Nat.zero_add, show d + (j - d) = j by omega] at e
      rw [← e, Nat.zero_add]
  · intro h
    refine ⟨hd, ?_⟩
    by_cases h0 : min ai.size (bo.size - d) ≤ 0
    · exact .inl h0
    · refine .inr (bat_ext ?_ fun j hj => ?_)
      · rw [ext_size (by omega) (by omega), ext_size (by omega) (by omega)]
        omega
      · rw [ext_size (by omega) (by omega)] at hj
        rw [bat_extract (by omega) (by omega), bat_extract (by omega) (by omega), Nat.zero_add, h (d + j) (by omega) (by omega) (by omega)]
        congr 1
        omega
theorem doc_f (n d : Nat) (ao ai bo bi : ByteArray) : doc n 0 d ao ai bo bi = mDoF n d ao ai bo bi := by
  unfold doc mDoF
  rw [ext_none (Nat.le_refl 0), emp_app, Nat.zero_add, Nat.sub_zero]
theorem doc_b (n d : Nat) (ao ai bo bi : ByteArray) : doc n d 0 ao ai bo bi = mDoB n d ao ai bo bi := by
  unfold doc mDoB
  rw [ext_none (Nat.le_refl 0), emp_app, Nat.zero_add, Nat.sub_zero, Nat.add_comm]
/-- The document's Merge at work: a, b and the result's place in new memory, the bytes between and which are known. -/
structure DM (w w' : World) (ga gb gr gm gk : Nat) (x y : Int) (ao ai bo bi : ByteArray) (E : Nat) (B : Nat → Int) (K : Nat → Bool) : Prop where
  ba : Blk w' ga 24 #[.int .i64 x, .string ao, .string ai]
  bb : Blk w' gb 24 #[.int .i64 y, .string bo, .string bi]
  br : Blk w' gr 24 #[.int .i64 0, .string ⟨#[]⟩, .string ⟨#[]⟩]
  mem : ∃ cs : Array Value, Blk w' gm 5 cs ∧ cs.size = E ∧ ∀ j, j < E → cs[j]? = some (.int .u8 (B j))
  kno : ∃ cs : Array Value, Blk w' gk 4 cs ∧ cs.size = E ∧ ∀ j, j < E → cs[j]? = some (.bool (K j))
  new : w.heap.size ≤ ga ∧ ga < gb ∧ gb < gr ∧ gr < gm ∧ gm < gk
  below : Below w.heap.size w w'
section
variable {w w' : World} {ga gb gr gm gk : Nat} {x y : Int} {ao ai bo bi : ByteArray} {E : Nat} {B B' : Nat → Int} {K K' : Nat → Bool}
theorem DM.cellB (h : DM w w' ga gb gr gm gk x y ao ai bo bi E B K) (j : Nat) (hj : j < E) : w'.cell? ⟨gm, j, none⟩ = some (.int .u8 (B j)) := by
  obtain ⟨cs, hb, hs, hc⟩ := h.mem
  exact (hb.cell j).trans (hc j hj)
theorem DM.cellK (h : DM w w' ga gb gr gm gk x y ao ai bo bi E B K) (j : Nat) (hj : j < E) : w'.cell? ⟨gk, j, none⟩ = some (.bool (K j)) := by
  obtain ⟨cs, hb, hs, hc⟩ := h.kno
  exact (hb.cell j).trans (hc j hj)
theorem DM.frozenB (h : DM w w' ga gb gr gm gk x y ao ai bo bi E B K) (j : Nat) : w'.frozen? ⟨gm, j, none⟩ = false := by
  obtain ⟨cs, hb, hs, hc⟩ := h.mem
  exact hb.frozen j
theorem DM.frozenK (h : DM w w' ga gb gr gm gk x y ao ai bo bi E B K) (j : Nat) : w'.frozen? ⟨gk, j, none⟩ = false := by
  obtain ⟨cs, hb, hs, hc⟩ := h.kno
  exact hb.frozen j
theorem DM.drewN (h : DM w w' ga gb gr gm gk x y ao ai bo bi E B K) (n : Nat) : DM w (w'.drewN n) ga gb gr gm gk x y ao ai bo bi E B K := ⟨h.ba, h.bb, h.br, h.mem, h.kno, h.new, Below.drewN' h.below n⟩
theorem DM.eqv (h : DM w w' ga gb gr gm gk x y ao ai bo bi E B K) (hB : ∀ k, k < E → B' k = B k) (hK : ∀ k, k < E → K' k = K k) : DM w w' ga gb gr gm gk x y ao ai bo bi E B' K' := by
  obtain ⟨cs, hb, hs, hc⟩ := h.mem
  obtain ⟨ks, kb, kss, kc⟩ := h.kno
  exact ⟨h.ba, h.bb, h.br, ⟨cs, hb, hs, fun j hj => by rw [hc j hj, hB j hj]⟩, ⟨ks, kb, kss, fun j hj => by rw [kc j hj, hK j hj]⟩, h.new, h.below⟩
theorem set_cells {cs : Array Value} {E j : Nat} (hs : cs.size = E) {f g : Nat → Value} (hc : ∀ k, k < E → cs[k]? = some (f k)) (v : Value) (hg : ∀ k, k < E → g k = if k = j then v else f k) : (cs.setIfInBounds j v).size = E ∧ ∀ k, k < E → (cs.setIfInBounds j v)[k]? = some (g k) := by
  refine ⟨by simpa using hs, fun k hk => ?_⟩
  rw [Array.getElem?_setIfInBounds, hg k hk]
  by_cases e : j = k
  · subst e
    rw [if_pos rfl, if_pos (by omega), if_pos rfl]
  · rw [if_neg e, if_neg (fun x => e x.symm), hc k hk]
theorem DM.setB (h : DM w w' ga gb gr gm gk x y ao ai bo bi E B K) (j : Nat) (v : Int) (hB : ∀ k, k < E → B' k = if k = j then v else B k) : DM w (w'.setCell ⟨gm, j, none⟩ (.int .u8 v)) ga gb gr gm gk x y ao ai bo bi E B' K := by
  obtain ⟨cs, hb, hs, hc⟩ := h.mem
  obtain ⟨ks, kb, kss, kc⟩ := h.kno
  obtain ⟨n1, n2, n3, n4, n5⟩ := h.new
  obtain ⟨h1, h2⟩ := set_cells (j := j) hs hc (.int .u8 v) (g := fun k => .int .u8 (B' k)) (fun k hk => by rw [hB k hk]; split <;> rfl)
  exact ⟨h.ba.far (by dsimp only; omega) _, h.bb.far (by dsimp only; omega) _, h.br.far (by dsimp only; omega) _, ⟨_, hb.set_ j _, h1, h2⟩, ⟨ks, kb.far (by dsimp only; omega) _, kss, kc⟩, h.new, h.below.setCell (by dsimp only; omega) _⟩
theorem DM.setK (h : DM w w' ga gb gr gm gk x y ao ai bo bi E B K) (j : Nat) (v : Bool) (hK : ∀ k, k < E → K' k = if k = j then v else K k) : DM w (w'.setCell ⟨gk, j, none⟩ (.bool v)) ga gb gr gm gk x y ao ai bo bi E B K' := by
  obtain ⟨cs, hb, hs, hc⟩ := h.mem
  obtain ⟨ks, kb, kss, kc⟩ := h.kno
  obtain ⟨n1, n2, n3, n4, n5⟩ := h.new
  obtain ⟨h1, h2⟩ := set_cells (j := j) kss kc (.bool v) (g := fun k => .bool (K' k)) (fun k hk => by rw [hK k hk]; split <;> rfl)
  exact ⟨h.ba.far (by dsimp only; omega) _, h.bb.far (by dsimp only; omega) _, h.br.far (by dsimp only; omega) _, ⟨cs, hb.far (by dsimp only; omega) _, hs, hc⟩, ⟨_, kb.set_ j _, h1, h2⟩, h.new, h.below.setCell (by dsimp only; omega) _⟩
theorem made_cells (v : Value) (n j : Nat) (hj : j < n) : (madeCells #[v] n)[j]? = some v := by
  unfold madeCells
  simp [hj, Nat.mod_one]
theorem DM.start (w : World) (x y : Int) (ao ai bo bi : ByteArray) (E n : Nat) :
    DM w ((((((w.alloc (.cells #[.int .i64 x, .string ao, .string ai] 24)).alloc (.cells #[.int .i64 y, .string bo, .string bi] 24)).alloc (.cells #[.int .i64 0, .string ⟨#[]⟩, .string ⟨#[]⟩] 24)).drewN n).alloc (.cells (madeCells #[.int .u8 0] E) 5)).alloc (.cells (madeCells #[.bool false] E) 4)) w.heap.size (w.heap.size + 1) (w.heap.size + 1 + 1) (w.heap.size + 1 + 1 + 1) (w.heap.size + 1 + 1 + 1 + 1) x y ao ai bo bi E (fun _ => 0) (fun _ => false) := by
  have e1 := Blk.new w 24 #[.int .i64 x, .string ao, .string ai]
  have e2 := Blk.new (w.alloc (.cells #[.int .i64 x, .string ao, .string ai] 24)) 24 #[.int .i64 y, .string bo, .string bi]
  have e3 := Blk.new ((w.alloc (.cells #[.int .i64 x, .string ao, .string ai] 24)).alloc (.cells #[.int .i64 y, .string bo, .string bi] 24)) 24 #[.int .i64 0, .string ⟨#[]⟩, .string ⟨#[]⟩]
  have e4 := Blk.new ((((w.alloc (.cells #[.int .i64 x, .string ao, .string ai] 24)).alloc (.cells #[.int .i64 y, .string bo, .string bi] 24)).alloc (.cells #[.int .i64 0, .string ⟨#[]⟩, .string ⟨#[]⟩] 24)).drewN n) 5 (madeCells #[.int .u8 0] E)
  have e5 := Blk.new (((((w.alloc (.cells #[.int .i64 x, .string ao, .string ai] 24)).alloc (.cells #[.int .i64 y, .string bo, .string bi] 24)).alloc (.cells #[.int .i64 0, .string ⟨#[]⟩, .string ⟨#[]⟩] 24)).drewN n).alloc (.cells (madeCells #[.int .u8 0] E) 5)) 4 (madeCells #[.bool false] E)
  have sd : ∀ (u : World) m, (u.drewN m).heap = u.heap := fun _ _ => rfl
  simp only [World.size_alloc, sd] at e2 e3 e4 e5
  refine ⟨((((e1.alloc _).alloc _).drewN n).alloc _).alloc _, (((e2.alloc _).drewN n).alloc _).alloc _, ((e3.drewN n).alloc _).alloc _, ⟨_, e4.alloc _, size_madeCells _ _, fun j hj => made_cells _ _ _ hj⟩, ⟨_, e5, size_madeCells _ _, fun j hj => made_cells _ _ _ hj⟩, by omega, ?_⟩
  have b0 := Below.refl w.heap.size w
  have b1 := b0.alloc (Nat.le_refl _) (.cells #[.int .i64 x, .string ao, .string ai] 24)
  have b2 := b1.alloc b1.size (.cells #[.int .i64 y, .string bo, .string bi] 24)
  have b3 := Below.drewN' (b2.alloc b2.size (.cells #[.int .i64 0, .string ⟨#[]⟩, .string ⟨#[]⟩] 24)) n
  have b4 := b3.alloc b3.size (.cells (madeCells #[.int .u8 0] E) 5)
  exact b4.alloc b4.size _
end
/-- What slicing and converting the bytes between gives. -/
theorem el69 : Tryd.prog.underlying 69 = some (.slice (Tryd.prog.elem 69)) := by kernel_rfl
theorem el69' : Tryd.prog.elem 69 = 5 := by kernel_rfl
theorem sz5 (w : World) : (Go.sizeOf 5).run Tryd.prog w = .ok 1 w := by kernel_rfl
theorem head_slice (g E X : Nat) (hX : X ≤ E) (w : World) : (Instr.slice 69 (.slice (some ⟨g, 0, none⟩) E E) none (some (.int .i64 (X : Int))) none).run Tryd.prog w = .ok (.slice (some ⟨g, 0, none⟩) X E) w := by
  rw [run_slice_h w 69 _ _ _ el69 .i64 _ (by omega) (by omega), el69', sz5]
  simp [Result.andThen, sliced, Addr.add]
theorem tail_slice (g E q : Nat) (hq : q ≤ E) : ∃ o, (∀ w, (Instr.slice 69 (.slice (some ⟨g, 0, none⟩) E E) (some (.int .i64 (q : Int))) none none).run Tryd.prog w = .ok (.slice (some ⟨g, o, none⟩) (E - q) (E - q)) w) ∧ (q < E → o = q) := by
  refine ⟨if E - q = 0 then 0 else q, fun w => ?_, fun h => if_neg (by omega)⟩
  rw [run_slice_l w 69 _ _ _ el69 .i64 _ (by omega) (by omega), el69', sz5]
  by_cases h0 : E - q = 0
  · by_cases h1 : q = 0
    · subst h1
      simp [Result.andThen, sliced, Addr.add, h0]
    · simp [Result.andThen, sliced, Addr.add, h0]
      omega
  · by_cases h1 : q = 0
    · subst h1
      simp [Result.andThen, sliced, Addr.add]
    · simp [Result.andThen, sliced, Addr.add, h0, h1]
      omega
theorem conv (w : World) (g o n c : Nat) (t : ByteArray) (ht : t.size = n) (hb : Lib.Bytes w g o t) (m : Nat) : (convert 69 9 (.slice (some ⟨g, o, none⟩) n c)).run Tryd.prog (w.drewN m) = .ok (.string t) (w.drewN m) := by
  subst ht
  exact Lib.run_convert_whole _ 69 5 9 Tryd.underlying69 Tryd.underlying5 Tryd.underlying9 g o t (hb.drewN m) c
theorem DM.bytes {w w' : World} {ga gb gr gm gk : Nat} {x y : Int} {ao ai bo bi : ByteArray} {E : Nat} {B : Nat → Int} {K : Nat → Bool} (h : DM w w' ga gb gr gm gk x y ao ai bo bi E B K) (o : Nat) (t : ByteArray) (ht : ∀ j, j < t.size → o + j < E ∧ B (o + j) = bat t j) : Lib.Bytes w' gm o t := by
  intro j hj
  obtain ⟨h1, h2⟩ := ht j hj
  rw [h.cellB (o + j) h1, h2, bat_of hj]
/-- The bytes between, when a's are in and i of b's. -/
def btw (X Y : Nat) (ai bo : ByteArray) (i : Nat) (j : Nat) : Int := if Y ≤ j ∧ j < Y + i then bat bo (j - Y) else if X ≤ j ∧ j < X + ai.size then bat ai (j - X) else 0
def bt1 (X : Nat) (ai : ByteArray) (i : Nat) (j : Nat) : Int := if X ≤ j ∧ j < X + i then bat ai (j - X) else 0
def kn1 (X : Nat) (i : Nat) (j : Nat) : Bool := decide (X ≤ j ∧ j < X + i)
theorem bt1_next (X i : Nat) (ai : ByteArray) (k : Nat) : bt1 X ai (i + 1) k = if k = X + i then bat ai i else bt1 X ai i k := by
  unfold bt1
  by_cases h : k = X + i
  · rw [if_pos h, if_pos (by omega), show k - X = i by omega]
  · rw [if_neg h]
    by_cases h1 : X ≤ k ∧ k < X + i
    · rw [if_pos h1, if_pos (by omega)]
    · rw [if_neg h1, if_neg (by omega)]
theorem kn1_next (X i : Nat) (k : Nat) : kn1 X (i + 1) k = if k = X + i then true else kn1 X i k := by
  unfold kn1
  by_cases h : k = X + i
  · rw [if_pos h]
    exact decide_eq_true (by omega)
  · rw [if_neg h]
    exact decide_eq_decide.2 (by omega)
theorem btw_zero (X Y : Nat) (ai bo : ByteArray) (k : Nat) : btw X Y ai bo 0 k = bt1 X ai ai.size k := by
  unfold btw bt1
  rw [if_neg (by omega)]
theorem btw_next (X Y i : Nat) (ai bo : ByteArray) (k : Nat) : btw X Y ai bo (i + 1) k = if k = Y + i then bat bo i else btw X Y ai bo i k := by
  unfold btw
  by_cases h : k = Y + i
  · rw [if_pos h, if_pos (by omega), show k - Y = i by omega]
  · rw [if_neg h]
    by_cases h1 : Y ≤ k ∧ k < Y + i
    · rw [if_pos h1, if_pos (by omega)]
    · rw [if_neg h1, if_neg (by omega)]
theorem btw_at (X Y i : Nat) (ai bo : ByteArray) (h : X ≤ Y + i) (h2 : Y + i < X + ai.size) : btw X Y ai bo i (Y + i) = bat ai (Y + i - X) := by
  unfold btw
  rw [if_neg (by omega), if_pos ⟨h, h2⟩]
section
variable {X Y E : Nat} {ai bo : ByteArray}
/-- The four texts that are read out. -/
theorem read1 (hXY : X = 0 ∨ Y = 0) (hX : X ≤ bo.size) (hY : Y ≤ ai.size) (hE : E = max (X + ai.size) (Y + bo.size)) : ∀ j, j < (bo.extract 0 X).size → 0 + j < E ∧ btw X Y ai bo bo.size (0 + j) = bat (bo.extract 0 X) j := by
  intro j hj
  rw [ext_size (by omega) hX] at hj
  rw [bat_extract (by omega) hX]
  refine ⟨by omega, ?_⟩
  unfold btw
  rw [if_pos (by omega), show 0 + j - Y = 0 + j by omega]
theorem read2 (hXY : X = 0 ∨ Y = 0) (hX : X ≤ bo.size) (hY : Y ≤ ai.size) (hE : E = max (X + ai.size) (Y + bo.size)) (o : Nat) (ho : X + ai.size < E → o = X + ai.size) : ∀ j, j < (bo.extract (X + ai.size - Y) bo.size).size → o + j < E ∧ btw X Y ai bo bo.size (o + j) = bat (bo.extract (X + ai.size - Y) bo.size) j := by
  intro j hj
  by_cases h : X + ai.size - Y ≤ bo.size
  · rw [ext_size h (Nat.le_refl _)] at hj
    rw [bat_extract (by omega) (Nat.le_refl _)]
    have ho := ho (by omega)
    refine ⟨by omega, ?_⟩
    unfold btw
    rw [if_pos (by omega)]
    congr 1
    omega
  · rw [ext_none (by omega)] at hj
    exact absurd hj (Nat.not_lt_zero _)
theorem read3 (hXY : X = 0 ∨ Y = 0) (hX : X ≤ bo.size) (hY : Y ≤ ai.size) (hE : E = max (X + ai.size) (Y + bo.size)) : ∀ j, j < (ai.extract 0 Y).size → 0 + j < E ∧ btw X Y ai bo bo.size (0 + j) = bat (ai.extract 0 Y) j := by
  intro j hj
  rw [ext_size (by omega) hY] at hj
  rw [bat_extract (by omega) hY]
  refine ⟨by omega, ?_⟩
  unfold btw
  rw [if_neg (by omega), if_pos (by omega), show 0 + j - X = 0 + j by omega]
theorem read4 (hXY : X = 0 ∨ Y = 0) (hX : X ≤ bo.size) (hY : Y ≤ ai.size) (hE : E = max (X + ai.size) (Y + bo.size)) (o : Nat) (ho : Y + bo.size < E → o = Y + bo.size) : ∀ j, j < (ai.extract (Y + bo.size - X) ai.size).size → o + j < E ∧ btw X Y ai bo bo.size (o + j) = bat (ai.extract (Y + bo.size - X) ai.size) j := by
  intro j hj
  by_cases h : Y + bo.size - X ≤ ai.size
  · rw [ext_size h (Nat.le_refl _)] at hj
    rw [bat_extract (by omega) (Nat.le_refl _)]
    have ho := ho (by omega)
    refine ⟨by omega, ?_⟩
    unfold btw
    rw [if_neg (by omega), if_pos (by omega)]
    congr 1
    omega
  · rw [ext_none (by omega)] at hj
    exact absurd hj (Nat.not_lt_zero _)
theorem size1 (hX : X ≤ bo.size) : (bo.extract 0 X).size = X := by rw [ext_size (by omega) hX]; omega
theorem size2 (hY : Y ≤ ai.size) (hE : E = max (X + ai.size) (Y + bo.size)) : (bo.extract (X + ai.size - Y) bo.size).size = E - (X + ai.size) := by
  by_cases h : X + ai.size - Y ≤ bo.size
  · rw [ext_size h (Nat.le_refl _)]
    omega
  · rw [ext_none (by omega)]
    show 0 = _
    omega
end
end Log
end Go.Proofs.YtkpcnfchhnfpoaaDoor
