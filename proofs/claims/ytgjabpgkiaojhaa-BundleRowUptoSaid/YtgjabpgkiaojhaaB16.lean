/- The statement BundleLost. -/
import Derived.Test.YtgjabpgkiaojhaaB15
namespace Go.Proofs.Ytgjabpgkiaojhaa
open Go.Rd Go.RowKit
set_option linter.unusedVariables false
set_option linter.unusedSimpArgs false

theorem slNums : SliceOf Try.prog 50 3 1 8 (.int .i64 0) := ⟨by kernel_rfl, by kernel_rfl, rfl, by decide⟩
/-- A list of pieces that are others' memory. -/
structure Pcs (W w : World) (A : Option Addr) (c : Nat) (ps : List Part) : Prop where
  own : Own 24 1 w A c (ps.map Part.v)
  part : ∀ p ∈ ps, OBytes w p.A p.c p.xs ∧ p.xs.length = p.n
  new : ∀ k, blk A k → W.heap.size ≤ k
/-- A list of numbers. -/
structure Nums (W w : World) (A : Option Addr) (c : Nat) (is : List Int) : Prop where
  own : Own 3 1 w A c (is.map (Value.int .i64))
  new : ∀ k, blk A k → W.heap.size ≤ k
section
variable {W w w' : World} {A OA : Option Addr} {c oc n : Nat} {ps : List Part} {is : List Int}
theorem Pcs.nil : Pcs W w none 0 [] := ⟨.inl ⟨rfl, rfl, rfl⟩, fun p h => (by cases h), fun k hk => absurd hk blk_none⟩
theorem Nums.nil : Nums W w none 0 [] := ⟨.inl ⟨rfl, rfl, rfl⟩, fun k hk => absurd hk blk_none⟩
theorem Pcs.keep {X : Nat → Prop} (h : Pcs W w A c ps) (k : Keep X w w') (h1 : ∀ j, blk A j → ¬ X j) (h2 : ∀ p ∈ ps, ∀ j, blk p.A j → ¬ X j) : Pcs W w' A c ps :=
  ⟨h.own.keep k h1, fun p hp => ⟨(h.part p hp).1.keep k (h2 p hp), (h.part p hp).2⟩, h.new⟩
theorem Pcs.ext (h : Pcs W w A c ps) (x : Go.Rd.Ext w w') : Pcs W w' A c ps := h.keep x (fun _ _ h => h) fun _ _ _ _ h => h
theorem Nums.ext (h : Nums W w A c is) (x : Go.Rd.Ext w w') : Nums W w' A c is := ⟨h.own.ext x, h.new⟩
theorem own_ne {e f : TypeId} {sz sz2 : Nat} {A B : Option Addr} {c d : Nat} {cs ds : List Value} (hne : e ≠ f) (h : Own e sz w A c cs) (h2 : Own f sz2 w B d ds) : ∀ k, blk A k → ¬ blk B k := fun k h3 h4 => by
  obtain ⟨us, h5⟩ := Own.typ h h3
  obtain ⟨vs, h6⟩ := Own.typ h2 h4
  exact hne (typ_ne h5 h6)
theorem Pcs.push (h : Pcs W w A c ps) (x0 : Go.Rd.Ext W w) (hn : ps.length = n) (hb : n ≤ 1000000000) {q : Part} (o : OBytes w q.A q.c q.xs) (l : q.xs.length = q.n) (nums : Nums W w OA oc is) {φ : Option Addr → Nat → Nat → World → Prop}
    (hφ : ∀ A' c' w', Pcs W w' A' c' (ps ++ [q]) → Nums W w' OA oc is → Keep (blk A) w w' → (∀ k, blk A' k → blk A k ∨ w.heap.size ≤ k) → Go.Rd.Ext W w' → φ A' (n + 1) c' w') :
    letW (w.alloc (.cells #[.slice q.A q.n q.c] 24)) fun w1 => ∃ (v : Value) (w2 : World), (Builtin.append_ #[26, 26] 26 #[.slice A n c, .slice (some (newA w)) 1 1]).run Try.prog w1 = .ok v w2 ∧ ∃ (A' : Option Addr) (n' c' : Nat), v = .slice A' n' c' ∧ φ A' n' c' w2 := by
  refine letA fun w1 h1 x1 s1 => ?_
  have hB : RdC w1 (some (newA w)) [q.v] := by
    have : Own 24 1 w1 (some (newA w)) 1 [q.v] := .inr ⟨_, [], rfl, h1, rfl⟩
    exact this.cells
  obtain ⟨A', c', w2, hr, o2, _, k2, b2⟩ := append_own slLists (ty := 26) (n := n) (d := 1) (h.own.ext x1) (by rw [List.length_map]; omega) hB (m := 1) rfl rfl (by omega) (by omega)
  have kA : Keep (blk A) w w2 := (Keep.ext x1).trans' k2
  have sep : ∀ p ∈ ps ++ [q], ∀ j, blk p.A j → ¬ blk A j := by
    intro p hp j hj hA
    rcases List.mem_append.1 hp with hp | hp
    · exact own_ne (by decide) h.own (h.part p hp).1 j hA hj
    · obtain rfl : p = q := by simpa using hp
      exact own_ne (by decide) h.own o j hA hj
  refine ⟨_, w2, hr, A', _, c', rfl, hφ A' c' w2 ⟨by rw [List.map_append]; exact o2, fun p hp => ?_, fun k hk => ?_⟩ ⟨nums.own.keep kA fun k hk hA => own_ne (by decide) h.own nums.own k hA hk, nums.new⟩ kA (fun k hk => ?_) (x0.fresh kA h.new)⟩
  · rcases List.mem_append.1 hp with hp' | hp'
    · exact ⟨(h.part p hp').1.keep kA (sep p hp), (h.part p hp').2⟩
    · obtain rfl : p = q := by simpa using hp'
      exact ⟨o.keep kA (sep p hp), l⟩
  · rcases b2 k hk with h3 | h3
    · exact h.new k h3
    · have := x0.size; have := x1.size; omega
  · rcases b2 k hk with h3 | h3
    · exact .inl h3
    · have := x1.size; exact .inr (by omega)
theorem Nums.push (h : Nums W w OA oc is) (x0 : Go.Rd.Ext W w) (hn : is.length = n) (hb : n ≤ 1000000000) {i : Int} (pcs : Pcs W w A c ps) {φ : Option Addr → Nat → Nat → World → Prop}
    (hφ : ∀ A' c' w', Nums W w' A' c' (is ++ [i]) → Pcs W w' A c ps → Keep (blk OA) w w' → Go.Rd.Ext W w' → φ A' (n + 1) c' w') :
    letW (w.alloc (.cells #[.int .i64 i] 3)) fun w1 => ∃ (v : Value) (w2 : World), (Builtin.append_ #[50, 50] 50 #[.slice OA n oc, .slice (some (newA w)) 1 1]).run Try.prog w1 = .ok v w2 ∧ ∃ (A' : Option Addr) (n' c' : Nat), v = .slice A' n' c' ∧ φ A' n' c' w2 := by
  refine letA fun w1 h1 x1 s1 => ?_
  have hB : RdC w1 (some (newA w)) [.int .i64 i] := by
    have : Own 3 1 w1 (some (newA w)) 1 [.int .i64 i] := .inr ⟨_, [], rfl, h1, rfl⟩
    exact this.cells
  obtain ⟨A', c', w2, hr, o2, _, k2, b2⟩ := append_own slNums (ty := 50) (n := n) (d := 1) (h.own.ext x1) (by rw [List.length_map]; omega) hB (m := 1) rfl rfl (by omega) (by omega)
  have kA : Keep (blk OA) w w2 := (Keep.ext x1).trans' k2
  refine ⟨_, w2, hr, A', _, c', rfl, hφ A' c' w2 ⟨by rw [List.map_append]; exact o2, fun k hk => ?_⟩ (pcs.keep kA (fun k hk hA => own_ne (by decide) h.own pcs.own k hA hk) fun p hp k hk hA => own_ne (by decide) h.own (pcs.part p hp).1 k hA hk) kA (x0.fresh kA h.new)⟩
  rcases b2 k hk with h3 | h3
  · exact h.new k h3
  · have := x0.size; have := x1.size; omega
end

section
variable {W : World} {ZA RA : Option Addr} {zn zc rn rc : Nat} {zs : List Part} {rs : List Int} {m : Nat} {first : Int} {kb : Nat}
/-- The loads, as they were given. -/
def loadX (zs : List Part) (l : Nat) : List Int := (zs[l]?.map (·.xs)).getD []
theorem loadX_at {l : Nat} {p : Part} (h : zs[l]? = some p) : loadX zs l = p.xs := by rw [loadX, h]; rfl
def fstI (m : Nat) (zs : List Part) (i : Nat) : List Int := (cellC (cntX m (loadX zs)) i).map fun p => ((p.1 : Nat) : Int)
def pcsX (m : Nat) (f : Int) (zs : List Part) (i : Nat) : List (List Int) := (cellC (cntX m (loadX zs)) i).map (pcX k1 m f (loadX zs))

/-- The pieces, in any order. -/
theorem lost_order (hz : Rd Part.v W ZA zn zs) (hp : ∀ p ∈ zs, PIn W p) (hr : Rd (Value.int .i64) W RA rn rs) (hrn : rn ≤ 140737488351232) (hm : 1 ≤ m) (hm2 : m ≤ 50) (hx : ∀ l, l < zn → (loadX zs l).length ≤ 60 * m) {Wp : World} (xW : Go.Rd.Ext W Wp)
    {A OA : Option Addr} {c oc u N : Nat} {f : Int} (hN : baseC (cntX m (loadX zs)) zn = N) (hN0 : N ≠ 0) (hN4 : N ≤ 4096) (lp : LRd Wp A N (pcsX m f zs zn)) (lo : Rd (Value.int .i64) Wp OA N (fstI m zs zn)) :
    ∀ (d i : Nat), rn - i = d → i ≤ rn → ∀ (w : World) (F : Nat → Prop) (s : BSt), Go.Rd.Ext Wp w → BOk w u F s → (∀ j, F j → Wp.heap.size ≤ j) → Gath k1 m f (loadX zs) zn s →
      law9_BundleLost.L4 (Good W) ZA zn zc RA rn rc A N c OA N oc (some ⟨u, 0, none⟩) i w := by
  intro d
  have hk : goodK k1 := .inl rfl
  induction d with
  | zero =>
    intro i hd hi w F s x ok hF hs
    refine law9_BundleLost.L4_step (ifP_no (by omega) (bawake_spec.mono ?_))
    rintro v w1 ⟨rfl, x1⟩
    exact ⟨_, rfl, rfl, Fr.of_ext ((xW.trans x).trans x1)⟩
  | succ d ih =>
    intro i hd hi w F s x ok hF hs
    obtain ⟨a, ha, hc⟩ := Rd.at (hr.ext (xW.trans x)) (i := i) (by omega)
    generalize rs[i]'(by rw [hr.1]; omega) = o at hc
    refine law9_BundleLost.L4_step (ifP_yes (by omega) ⟨by omega, by omega, a, ha, _, by rw [Int.toNat_natCast]; exact hc, low_spec.mono ?_⟩)
    rintro v w1 ⟨rfl, hw1⟩
    subst hw1
    have e1 : Int.tmod (lowV o) ((N : Nat) : Int) = lowV o % (N : Int) := Int.tmod_eq_emod_of_nonneg (lowV_ge o)
    have g0 := Int.emod_nonneg (lowV o) (show (N : Int) ≠ 0 by omega)
    have g1 := Int.emod_lt_of_pos (lowV o) (show 0 < (N : Int) by omega)
    refine ⟨_, rfl, by omega, ?_⟩
    rw [e1]
    obtain ⟨g, hg⟩ := Int.eq_ofNat_of_zero_le g0
    rw [hg] at g1 ⊢
    have hgN : g < N := by omega
    have hcell : (cellC (cntX m (loadX zs)) zn)[g]? = some ((cellC (cntX m (loadX zs)) zn)[g]'(by rw [cell_len, hN]; exact hgN)) := List.getElem?_eq_getElem _
    generalize hq : (cellC (cntX m (loadX zs)) zn)[g]'(by rw [cell_len, hN]; exact hgN) = q at hcell
    obtain ⟨l, j⟩ := q
    obtain ⟨hl, hj, hgb⟩ := cell_get hcell
    obtain ⟨b, p, hb, hcp, hip, ep⟩ := (lp.ext x).at (i := g) hgN
    have ep2 : (pcsX m f zs zn)[g]? = some (pcX k1 m f (loadX zs) (l, j)) := by rw [pcsX, List.getElem?_map, hcell]; rfl
    rw [ep2] at ep
    have ep := Option.some.inj ep
    rw [← ep] at hip
    have hzl : zs[l]? = some (zs[l]'(by rw [hz.len]; exact hl)) := List.getElem?_eq_getElem _
    generalize zs[l]'(by rw [hz.len]; exact hl) = z at hzl
    have hzm := hp z (List.mem_of_getElem? hzl)
    have ez := loadX_at hzl
    have hbytes : ∀ y ∈ pcX k1 m f (loadX zs) (l, j), 0 ≤ y ∧ y ≤ 255 := by
      refine piece_bytes ?_
      show ∀ y ∈ loadX zs l, _
      rw [ez]
      exact hzm.bytes
    have hxl := hx l hl
    have plen := (piece_length (k := k1) (m := m) (first := (f + baseC (cntX m (loadX zs)) l) % spaceK k1) (xs := loadX zs l) (i := j)).1
    have hpl : p.n ≤ 8 + m := by
      have := hip.len
      have e : (pcX k1 m f (loadX zs) (l, j)).length = (pieceAt k1 m ((f + baseC (cntX m (loadX zs)) l) % spaceK k1) (loadX zs l) j).length := rfl
      omega
    obtain ⟨t1, t2, t3⟩ := lost_feed (k := k1) (f := f) hk hm (by omega) (fun l hl => by have := hx l hl; omega) (by rw [hN]; show (N : Int) ≤ 4096; omega) hs hcell
    refine ⟨by omega, by omega, b, hb, _, _, p.c, by rw [Int.toNat_natCast]; exact hcp, copy_feed ok hs.2.1 hip hbytes (by omega) ?_⟩
    intro v w2 hf st
    obtain ⟨J, jc, rfl, oJ, bJ⟩ := hf
    obtain ⟨F2, ok2, k2, n2⟩ := st
    have x2 : Go.Rd.Ext Wp w2 := x.fresh k2 hF
    have hF2 : ∀ j, F2 j → Wp.heap.size ≤ j := fun j hj => by
      rcases n2 j hj with h | h
      · exact hF j h
      · have := x.size; omega
    have hw : IntKind.i64.wrap ((i : Int) + 1) = ((i + 1 : Nat) : Int) := wrap_i64 (by omega) (by omega)
    have next : ∀ w3, Go.Rd.Ext w2 w3 → law9_BundleLost.J5 (Good W) ZA zn zc RA rn rc A N c OA N oc (some ⟨u, 0, none⟩) i false w3 := by
      intro w3 x3
      refine ifP_f rfl ?_
      rw [hw]
      exact ih (i + 1) (by omega) (by omega) w3 F2 _ (x2.trans x3) (ok2.ext x3) hF2 t1
    have ofAt : ∀ {w3 : World} {h : Nat} {q : Nat × Nat}, Go.Rd.Ext Wp w3 → (cellC (cntX m (loadX zs)) zn)[h]? = some q → ∃ b, OA = some b ∧ w3.cell? (b.add (h * 1)) = some (.int .i64 ((q.1 : Nat) : Int)) := by
      intro w3 h q x3 hq
      obtain ⟨b, hb, hcb⟩ := (lo.ext x3).2 h ((q.1 : Nat) : Int) (by rw [fstI, List.getElem?_map, hq]; rfl)
      exact ⟨b, hb, hcb⟩
    have j4 : ∀ (last : Bool) (w3 : World), Go.Rd.Ext w2 w3 → (j + 1 = cntX m (loadX zs) l → last = true) → law9_BundleLost.J4 (Good W) ZA zn zc RA rn rc A N c OA N oc (some ⟨u, 0, none⟩) i (g : Int) J ((feedX s (pcX k1 m f (loadX zs) (l, j))).1.2.getD []).length jc (feedX s (pcX k1 m f (loadX zs) (l, j))).1.2.isSome (feedX s (pcX k1 m f (loadX zs) (l, j))).1.1 last w3 := by
      intro last w3 x3 hlast
      have oJ3 := oJ.ext x3
      rw [t2]
      refine ifP_nne rfl ?_
      rcases t3 with e | ⟨e0, e⟩
      · rw [e]
        exact ifP_f rfl (next w3 x3)
      · rw [e] at oJ3 ⊢
        obtain ⟨b2, hb2, hcb2⟩ := ofAt (x2.trans x3) hcell
        obtain ⟨b3, hb3, hcb3⟩ := (hz.ext (xW.trans (x2.trans x3))).2 l z hzl
        refine ifP_t rfl (ifP_f (by rw [hlast e0]; rfl) ⟨by omega, by omega, b2, hb2, _, by rw [Int.toNat_natCast]; exact hcb2, by omega, by omega, b3, hb3, _, _, _, by rw [Int.toNat_natCast]; exact hcb3, (sameBytes_spec (oJ3.rd rfl) (hzm.rd.ext (xW.trans (x2.trans x3))) (by simp only [Option.getD_some]; omega)).mono ?_⟩)
        rintro v w4 ⟨rfl, x4⟩
        refine ⟨_, rfl, ?_⟩
        rw [show (!decide ((some (loadX zs l)).getD [] = z.xs)) = false by simp [ez]]
        exact next w4 (x3.trans x4)
    have elast : IntKind.i64.wrap ((N : Int) - 1) = (N : Int) - 1 := wrap_i64 (by omega) (by omega)
    have eg : IntKind.i64.wrap ((g : Int) + 1) = ((g + 1 : Nat) : Int) := wrap_i64 (by omega) (by omega)
    refine ⟨_, _, _, _, _, rfl, letD fun w3 _ x3 => ?_⟩
    rw [elast, eg]
    refine ifP_beq.2 ⟨fun _ => j4 true w3 x3 fun _ => rfl, fun hne => ?_⟩
    have hg1 : g + 1 < N := by omega
    have hcell1 : (cellC (cntX m (loadX zs)) zn)[g + 1]? = some ((cellC (cntX m (loadX zs)) zn)[g + 1]'(by rw [cell_len, hN]; exact hg1)) := List.getElem?_eq_getElem _
    generalize (cellC (cntX m (loadX zs)) zn)[g + 1]'(by rw [cell_len, hN]; exact hg1) = q1 at hcell1
    obtain ⟨l1, j1⟩ := q1
    obtain ⟨b2, hb2, hcb2⟩ := ofAt (x2.trans x3) hcell
    obtain ⟨b3, hb3, hcb3⟩ := ofAt (x2.trans x3) hcell1
    refine ⟨by omega, by omega, b3, hb3, _, by rw [Int.toNat_natCast]; exact hcb3, by omega, by omega, b2, hb2, _, by rw [Int.toNat_natCast]; exact hcb2, j4 _ w3 x3 fun hlast => ?_⟩
    have := last_of hcell hlast hcell1
    exact bne_iff_ne.2 (by show ((l1 : Nat) : Int) ≠ ((l : Nat) : Int); omega)
end
end Go.Proofs.Ytgjabpgkiaojhaa
