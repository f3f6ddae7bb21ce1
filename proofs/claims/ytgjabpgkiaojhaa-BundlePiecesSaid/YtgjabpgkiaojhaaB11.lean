/- The statement BundleFeeds. -/
import Derived.Test.YtgjabpgkiaojhaaB10
import Derived.Test.YtgjabpgkiaojhaaOpenLL
namespace Go.Proofs.Ytgjabpgkiaojhaa
open Go.Rd Go.RowKit
set_option linter.unusedVariables false
set_option linter.unusedSimpArgs false

def Dj (F G : Nat → Prop) : Prop := ∀ k, F k → ¬ G k
theorem Dj.new {F G G' : Nat → Prop} {w : World} (h : Dj F G) (hF : ∀ k, F k → k < w.heap.size) (n : ∀ k, G' k → G k ∨ w.heap.size ≤ k) : Dj F G' := fun k h1 h2 => by
  rcases n k h2 with h3 | h3
  · exact h k h1 h3
  · have := hF k h1; omega
theorem Dj.symm {F G : Nat → Prop} (h : Dj F G) : Dj G F := fun k h1 h2 => h k h2 h1

/-- The document's bundle, and the program's. -/
structure Two (W w : World) (d u : Nat) (G F : Nat → Prop) (s : BSt) : Prop where
  doc : DOk w d G s
  prog : BOk w u F s
  ok : s.ok
  gn : ∀ k, G k → W.heap.size ≤ k
  fn : ∀ k, F k → W.heap.size ≤ k
  dj : Dj G F
section
variable {W w w' : World} {d u : Nat} {G F X : Nat → Prop} {s : BSt}
theorem Two.keep (h : Two W w d u G F s) (k : Keep X w w') (h1 : Dj G X) (h2 : Dj F X) : Two W w' d u G F s :=
  ⟨h.doc.keep k h1, h.prog.keep k h2, h.ok, h.gn, h.fn, h.dj⟩
theorem Two.ext (h : Two W w d u G F s) (x : Go.Rd.Ext w w') : Two W w' d u G F s := h.keep x (fun _ _ h => h) fun _ _ h => h
theorem Two.lt (h : Two W w d u G F s) {k : Nat} (hk : G k ∨ F k) : k < w.heap.size := by
  rcases hk with hk | hk
  · exact h.doc.lt hk
  · exact h.prog.lt hk
end

/-- A frame for both: what each tells is the same. -/
theorem two_doc {W w : World} {d u : Nat} {G F Y : Nat → Prop} {s : BSt} {p : Part} (h : Two W w d u G F s) (x : Go.Rd.Ext W w) (hp : PIn W p) (hY : ∀ k, Y k → k < w.heap.size) (hYG : Dj Y G) {φ : Value → World → Prop}
    (hφ : ∀ J jc w2 G' , OBytes w2 J jc ((feedX s p.xs).1.2.getD []) → (∀ k, blk J k → ¬ F k ∧ ¬ Y k) → DOk w2 d G' (feedX s p.xs).2 → BOk w2 u F s → Go.Rd.Ext W w2 → Keep G w w2 → (∀ k, G' k → G k ∨ w.heap.size ≤ k) → (∀ k, G' k → W.heap.size ≤ k) → Dj G' F → Dj Y G' →
      φ (.tuple #[.slice J ((feedX s p.xs).1.2.getD []).length jc, .bool (feedX s p.xs).1.2.isSome, .int .i64 (feedX s p.xs).1.1]) w2) :
    Run Try.prog 21 #[.pointer (some ⟨d, 0, none⟩), .slice p.A p.n p.c] w φ := by
  have hlt : 0 < p.n → ∀ k, blk p.A k → k < W.heap.size := fun h0 k hk => by
    obtain ⟨a, ha, rfl⟩ := hk
    exact hp.lt a ha h0
  have z := x.size
  refine (rfeed_spec h.doc h.ok (hp.rd.ext x) hp.bytes hp.cap (by have := hp.size; omega) (fun h0 k hk hG => by have := h.gn k hG; have := hlt h0 k hk; omega) (fun h0 k hk => by have := hlt h0 k hk; omega)).mono ?_
  rintro v w2 ⟨⟨J, jc, rfl, o2, b2⟩, G', ok', k', n'⟩
  refine hφ J jc w2 G' o2 (fun k hk => ⟨fun hF => ?_, fun hY2 => ?_⟩) ok' (h.prog.keep k' fun k hF hG => h.dj k hG hF) (x.fresh k' h.gn) k' n' (fun k hk => ?_) (fun k h1 h2 => ?_) (hYG.new hY n')
  · rcases b2 k hk with h1 | h1
    · exact h.dj k h1 hF
    · have := h.prog.lt hF; omega
  · rcases b2 k hk with h1 | h1
    · exact hYG k hY2 h1
    · have := hY k hY2; omega
  · rcases n' k hk with h1 | h1
    · exact h.gn k h1
    · omega
  · rcases n' k h1 with h3 | h3
    · exact h.dj k h3 h2
    · have := h.prog.lt h2; omega

section
variable {W : World} {FA : Option Addr} {fn fc : Nat} {ps : List Part}
theorem feeds_loop (hfr : Rd Part.v W FA fn ps) (hp : ∀ p ∈ ps, PIn W p) (hn : fn ≤ 140737488351232) {wd wu ou od : Nat} : ∀ (d i : Nat), fn - i = d → i ≤ fn → ∀ (w : World) (G F H E : Nat → Prop) (s t : BSt), Go.Rd.Ext W w → Two W w wd wu G F s → Two W w od ou H E t → Dj G H → Dj G E → Dj F H → Dj F E →
    law9_BundleFeeds.L0 (Good W) FA fn fc ⟨wd, 0, none⟩ (some ⟨wu, 0, none⟩) (some ⟨ou, 0, none⟩) ⟨od, 0, none⟩ i w := by
  intro d
  induction d with
  | zero =>
    intro i hd hi w G F H E s t x h1 h2 g1 g2 g3 g4
    refine law9_BundleFeeds.L0_step (ifP_no (by omega) (bawake_spec.mono ?_))
    rintro v w1 ⟨rfl, x1⟩
    exact ⟨_, rfl, rfl, Fr.of_ext (x.trans x1)⟩
  | succ d ih =>
    intro i hd hi w G F H E s t x h1 h2 g1 g2 g3 g4
    have hpi : ps[i]? = some (ps[i]'(by rw [hfr.len]; omega)) := List.getElem?_eq_getElem _
    generalize ps[i]'(by rw [hfr.len]; omega) = p at hpi
    have hpm := hp p (List.mem_of_getElem? hpi)
    have hsz := hpm.size
    obtain ⟨a, ha, hca⟩ := hfr.2 i p hpi
    have cellp : ∀ {w' : World}, Go.Rd.Ext W w' → w'.cell? (a.add (Int.toNat (i : Int) * 1)) = some (.slice p.A p.n p.c) := fun x' => by
      rw [Int.toNat_natCast]; exact x'.cell hca
    refine law9_BundleFeeds.L0_step (ifP_yes (by omega) ⟨by omega, by omega, a, ha, _, _, _, cellp x, two_doc h1 x hpm (Y := fun k => H k ∨ E k) (fun k hk => h2.lt hk) (fun k hk hG => hk.elim (g1 k hG) (g2 k hG)) ?_⟩)
    intro J jc w2 G' oJ bJ dok bok x2 kG nG gnG djG djY
    have z2 := kG.size
    have hY2 : Two W w2 od ou H E t := h2.keep kG (fun k hH hG => g1 k hG hH) (fun k hE hG => g2 k hG hE)
    refine ⟨_, _, _, _, _, rfl, by omega, by omega, a, ha, _, _, _, cellp x2, (lendBytes_spec (hpm.rd.ext x2) (by omega)).mono ?_⟩
    rintro v w3 ⟨L, lc, rfl, o3, b3, x3⟩
    have hpl := hpm.rd.len
    have L3 := o3.lt
    have bok3 := bok.ext x3
    refine ⟨_, _, _, rfl, (feed_spec bok3 h1.ok (lent_read o3 hpl) hpm.bytes (lent_cap o3 hpl) (by omega) (fun _ k hk hF => by have := b3 k hk; have := bok.lt hF; omega) (fun _ k hk => L3 k hk)).mono ?_⟩
    rintro v w4 ⟨⟨X, xc, rfl, oX, bX⟩, F', ok4, k4, n4, sep4⟩
    have sepX : ∀ k, blk X k → ¬ F' k := sep4 _ _ _ _ _ rfl
    have x4 : Go.Rd.Ext W w4 := (x2.trans x3).fresh k4 h1.fn
    have z3 := x3.size
    have z4 := k4.size
    have fnF' : ∀ k, F' k → W.heap.size ≤ k := fun k hk => by
      rcases n4 k hk with h | h
      · exact h1.fn k h
      · have := x2.size; omega
    refine ⟨_, _, _, _, _, rfl, (waits_spec ok4).mono ?_⟩
    rintro v w5 ⟨rfl, x5⟩
    have o35 : OBytes w5 L lc (p.xs ++ [201, 201, 201]) := (o3.keep k4 fun k hk hF => by have := b3 k hk; have := bok.lt hF; omega).ext x5
    refine ⟨_, _, rfl, by omega, by omega, a, ha, _, _, _, cellp (x4.trans x5), (keptBytes_spec o35 (hpm.rd.ext (x4.trans x5)) (by omega)).mono ?_⟩
    rintro v w6 ⟨rfl, k6⟩
    have z5 := x5.size
    have bL : ∀ k, blk L k → w2.heap.size ≤ k := b3
    have x6 : Go.Rd.Ext W w6 := (x4.trans x5).fresh k6 fun k hk => by have := bL k hk; have := x2.size; omega
    -- what stands at w6
    have ltD : ∀ k, G' k → k < w2.heap.size := fun k hk => dok.lt hk
    have dok6 : DOk w6 wd G' (feedX s p.xs).2 := (((dok.ext x3).keep k4 fun k hG hF => djG k hG hF).ext x5).keep k6 fun k hG hL => by have := bL k hL; have := ltD k hG; omega
    have ok6 : BOk w6 wu F' (feedX s p.xs).2 := (ok4.ext x5).keep k6 fun k hF hL => by
      rcases n4 k hF with h | h
      · have := bok.lt h; have := bL k hL; omega
      · have := L3 k hL; omega
    have oJ6 : OBytes w6 J jc ((feedX s p.xs).1.2.getD []) := (((oJ.ext x3).keep k4 fun k hk hF => (bJ k hk).1 hF).ext x5).keep k6 fun k hk hL => by have := bL k hL; have := oJ.lt k hk; omega
    have oX6 : OBytes w6 X xc ((feedX s p.xs).1.2.getD []) := (oX.ext x5).keep k6 fun k hk hL => by have := bX k hk; have := L3 k hL; omega
    have lY : ∀ k, H k ∨ E k → k < w2.heap.size := fun k hk => hY2.lt hk
    have hY4 : Two W w4 od ou H E t := (hY2.ext x3).keep k4 (fun k hH hF => g3 k hF hH) (fun k hE hF => g4 k hF hE)
    have hY6 : Two W w6 od ou H E t := (hY4.ext x5).keep k6 (fun k hH hL => by have := bL k hL; have := lY k (.inl hH); omega) (fun k hE hL => by have := bL k hL; have := lY k (.inr hE); omega)
    have ok' := feedX_ok h1.ok p.xs
    have lenJ : ((feedX s p.xs).1.2.getD []).length ≤ 65535 := by
      cases hr : readX s.k p.xs with
      | error e => unfold feedX; rw [hr]; exact Nat.zero_le _
      | ok r =>
        obtain ⟨b, e, q, a⟩ := r
        rw [feedX_eq hr, feedE_parts.1]
        split
        · exact Nat.zero_le _
        · split
          · exact Nat.zero_le _
          · split
            · exact Nat.zero_le _
            · simp only [Option.getD_some]; omega
    obtain ⟨DA, dc, dat6⟩ := dok6
    refine ⟨_, rfl, ifP_f rfl (ifP_f (by simp) (ifP_nne rfl ((sameBytes_spec (oX6.rd rfl) (oJ6.rd rfl) (by omega)).mono ?_)))⟩
    rintro v w7 ⟨rfl, x7⟩
    have dat7 := dat6.ext x7
    refine ⟨_, rfl, ifP_f (by simp) ⟨_, dat7.c3, ifP_nne rfl ⟨_, _, _, dat7.c5, ?_⟩⟩⟩
    rw [show (((feedX s p.xs).2.has.length : Int) != ((feedX s p.xs).2.has.length : Int)) = false by simp]
    refine ifP_f rfl ((spoilBytes_spec (oX6.ext x7) (by rw [List.length_map]) (by omega)).mono ?_)
    rintro v w8 ⟨rfl, k8⟩
    have bX3 : ∀ k, blk X k → w3.heap.size ≤ k := bX
    have x8 : Go.Rd.Ext W w8 := (x6.trans x7).fresh k8 fun k hk => by have := bX3 k hk; have := x2.size; omega
    have one8 : Two W w8 wd wu G' F' (feedX s p.xs).2 := by
      refine ⟨?_, (ok6.ext x7).keep k8 fun k hF hX => sepX k hX hF, ok', gnG, fnF', fun k hG hF => ?_⟩
      · exact (DOk.ext ⟨DA, dc, dat6⟩ x7).keep k8 fun k hG hX => by have := bX3 k hX; have := ltD k hG; omega
      · rcases n4 k hF with h | h
        · exact djG k hG h
        · have := ltD k hG; omega
    have hY8 : Two W w8 od ou H E t := (hY6.ext x7).keep k8 (fun k hH hX => by have := bX3 k hX; have := lY k (.inl hH); omega) (fun k hE hX => by have := bX3 k hX; have := lY k (.inr hE); omega)
    have d1 : Dj G' H := fun k hG hH => djY k (.inl hH) hG
    have d2 : Dj G' E := fun k hG hE => djY k (.inr hE) hG
    have d3 : Dj F' H := fun k hF hH => by
      rcases n4 k hF with h | h
      · exact g3 k h hH
      · have := lY k (.inl hH); omega
    have d4 : Dj F' E := fun k hF hE => by
      rcases n4 k hF with h | h
      · exact g4 k h hE
      · have := lY k (.inr hE); omega
    have hw : IntKind.i64.wrap ((i : Int) + 1) = ((i + 1 : Nat) : Int) := wrap_i64 (by omega) (by omega)
    have next : ∀ (w9 : World) (H' E' : Nat → Prop) (t' : BSt), Go.Rd.Ext W w9 → Two W w9 wd wu G' F' (feedX s p.xs).2 → Two W w9 od ou H' E' t' → Dj G' H' → Dj G' E' → Dj F' H' → Dj F' E' → law9_BundleFeeds.J3 (Good W) FA fn fc ⟨wd, 0, none⟩ (some ⟨wu, 0, none⟩) (some ⟨ou, 0, none⟩) ⟨od, 0, none⟩ i w9 := by
      intro w9 H' E' t' x9 t1 t2 e1 e2 e3 e4
      unfold law9_BundleFeeds.J3
      rw [hw]
      exact ih (i + 1) (by omega) (by omega) w9 G' F' H' E' _ t' x9 t1 t2 e1 e2 e3 e4
    refine ⟨rfl, ifP_beq.2 ⟨fun hodd => ⟨by omega, by omega, a, ha, _, _, _, cellp x8, two_doc hY8 x8 hpm (Y := fun k => G' k ∨ F' k) (fun k hk => one8.lt hk) (fun k hk hH => hk.elim (fun h => d1 k h hH) (fun h => d3 k h hH)) ?_⟩, fun _ => next w8 H E t x8 one8 hY8 d1 d2 d3 d4⟩⟩
    intro K kc w9 H' oK bK dok9 bok9 x9 kH nH gnH djH djY9
    have z8 := k8.size
    have z9 := kH.size
    have one9 : Two W w9 wd wu G' F' (feedX s p.xs).2 := one8.keep kH d1 d3
    refine ⟨_, _, _, _, _, rfl, by omega, by omega, a, ha, _, _, _, cellp x9, copy_feed bok9 hY8.ok (hpm.rd.ext x9) hpm.bytes (by omega) ?_⟩
    rintro v w10 ⟨Z, zc, rfl, oZ, bZ⟩ ⟨E', ok10, k10, n10⟩
    have x10 : Go.Rd.Ext W w10 := x9.fresh k10 hY8.fn
    have lenK : ((feedX t p.xs).1.2.getD []).length ≤ 65535 := by
      cases hr : readX t.k p.xs with
      | error e => unfold feedX; rw [hr]; exact Nat.zero_le _
      | ok r =>
        obtain ⟨b, e, q, a⟩ := r
        rw [feedX_eq hr, feedE_parts.1]
        split
        · exact Nat.zero_le _
        · split
          · exact Nat.zero_le _
          · split
            · exact Nat.zero_le _
            · simp only [Option.getD_some]; omega
    have oK10 : OBytes w10 K kc ((feedX t p.xs).1.2.getD []) := oK.keep k10 fun k hk hE => (bK k hk).1 hE
    refine ⟨_, _, _, _, _, rfl, ifP_f (by simp) (ifP_nne rfl ((sameBytes_spec (oZ.rd rfl) (oK10.rd rfl) (by omega)).mono ?_))⟩
    rintro v w11 ⟨rfl, x11⟩
    refine ⟨_, rfl, ?_⟩
    rw [show (!decide ((feedX t p.xs).1.2.getD [] = (feedX t p.xs).1.2.getD [])) = false by simp]
    refine ifP_f rfl (next w11 H' E' (feedX t p.xs).2 (x10.trans x11) ((one9.keep k10 d2 d4).ext x11) ?_ (fun k hG hH => djY9 k (.inl hG) hH) (fun k hG hE => ?_) (fun k hF hH => djY9 k (.inr hF) hH) fun k hF hE => ?_)
    · refine Two.ext ⟨dok9.keep k10 djH, ok10, feedX_ok hY8.ok p.xs, gnH, fun k hk => ?_, fun k hH hE => ?_⟩ x11
      · rcases n10 k hk with h | h
        · exact hY8.fn k h
        · have := x9.size; omega
      · rcases n10 k hE with h | h
        · exact djH k hH h
        · have := dok9.lt hH; omega
    · rcases n10 k hE with h | h
      · exact d2 k hG h
      · have := one9.lt (.inl hG); omega
    · rcases n10 k hE with h | h
      · exact d4 k hF h
      · have := one9.lt (.inr hF); omega

theorem NewOf.form {W w' : World} {k : Lnk} {nx : Int} {v : Value} (h : NewOf W k nx v w') : Go.Rd.Ext W w' ∧ ((codeN k nx ≠ 0 ∧ v = .tuple #[.pointer none, .int .i64 (codeN k nx)]) ∨
    (codeN k nx = 0 ∧ goodK k ∧ nx < spaceK k ∧ ∃ b, v = .tuple #[.pointer (some ⟨b, 0, none⟩), .int .i64 0] ∧ W.heap.size ≤ b ∧ BOk w' b (· = b) ⟨k, nx, false, []⟩)) := by
  obtain ⟨x, h⟩ := h
  refine ⟨x, ?_⟩
  rcases h with ⟨h1, h2⟩ | ⟨h1, h2, h3⟩ | ⟨h1, h2, h3⟩
  · have e : codeN k nx = 90 := if_pos h1
    exact .inl ⟨by rw [e]; decide, by rw [e]; exact h2⟩
  · have e : codeN k nx = 91 := by rw [codeN, if_neg (fun h => h h1), if_pos h2]
    exact .inl ⟨by rw [e]; decide, by rw [e]; exact h3⟩
  · have e : codeN k nx = 0 := by rw [codeN, if_neg (fun h => h h1), if_neg (by omega)]
    exact .inr ⟨e, h1, h2, h3⟩

theorem BundleFeeds_main {k : Lnk} {nx : Int} (hfr : Rd Part.v W FA fn ps) (hp : ∀ p ∈ ps, PIn W p) (hn : fn ≤ 140737488351232) (n0 : 0 ≤ nx) :
    Run Try.prog 4 #[.agg #[.bool k.ac, .bool k.pf, .int .i64 k.mp], .int .u32 nx, .slice FA fn fc] W (Good W) := by
  refine law9_BundleFeeds.ok (letA fun w1 h1 x1 s1 => ?_)
  have hk1 : LAt w1 W.heap.size k := h1
  refine hk1.rd ((rnew_spec (k := k) (nx := nx)).mono ?_)
  rintro v w2 ⟨rfl, x2⟩
  have x02 := x1.trans x2
  refine ⟨_, _, _, _, _, _, _, _, _, rfl, letA fun w3 h3 x3 s3 => st6 h3 rfl (vs := [.bool _, .bool _, .int .i64 _, .int .u32 _, .bool _, .slice none 0 0]) rfl rfl fun w4 h4 k4 => ?_⟩
  have z02 := x02.size
  have x04 : Go.Rd.Ext W w4 := (x02.trans x3).fresh k4 fun i hi => by rw [hi]; exact z02
  have x24 : Go.Rd.Ext w2 w4 := x3.fresh k4 fun i hi => by rw [hi]; exact Nat.le_refl _
  have hk4 := (hk1.ext x2).ext x24
  refine hk4.rd ((new_spec (k := k) (nx := nx) n0).mono ?_)
  intro v w5 hv5
  obtain ⟨x5, c5⟩ := hv5.form
  have aw : ∀ w', Go.Rd.Ext W w' → Run Try.prog 18 #[] w' fun v w_2 => ∃ t72 : Bool, v = .bool t72 ∧ Good W (.bool t72) w_2 := by
    intro w' x'
    refine bawake_spec.mono ?_
    rintro v w'' ⟨rfl, x''⟩
    exact ⟨_, rfl, rfl, Fr.of_ext (x'.trans x'')⟩
  rcases c5 with ⟨hc, rfl⟩ | ⟨hc, hg, hx, bu, rfl, hbu, ok5⟩
  · refine ⟨_, _, rfl, (hk4.ext x5).rd ((new_spec (k := k) (nx := nx) n0).mono ?_)⟩
    intro v w6 hv6
    obtain ⟨x6, c6⟩ := hv6.form
    rcases c6 with ⟨_, rfl⟩ | ⟨hc2, _⟩
    · have hb : (codeN k nx != 0) = true := bne_iff_ne.2 hc
      refine ⟨_, _, rfl, ifP_nne rfl (ifP_nne rfl (ifP_f ?_ ?_))⟩
      · rw [hb]; rfl
      · rw [hb]
        exact ifP_f rfl (ifP_t hb (aw w6 ((x04.trans x5).trans x6)))
    · exact absurd hc2 hc
  · refine ⟨_, _, rfl, (hk4.ext x5).rd ((new_spec (k := k) (nx := nx) n0).mono ?_)⟩
    intro v w6 hv6
    obtain ⟨x6, c6⟩ := hv6.form
    rcases c6 with ⟨hc2, _⟩ | ⟨_, _, _, bo, rfl, hbo, ok6⟩
    · exact absurd hc hc2
    · have es : sNew k nx = ⟨k, nx, false, []⟩ := by rw [sNew, if_pos hc]
      have d4 : DAt w4 w2.heap.size (· = w2.heap.size) ⟨k, nx, false, []⟩ none 0 := by
        refine ⟨?_, .inl ⟨rfl, rfl, rfl⟩, fun j => ⟨fun h => .inl h, fun h => h.elim id fun h => absurd h blk_none⟩⟩
        rw [h4, es]
        rfl
      have d6 := (d4.ext x5).ext x6
      have hb : (codeN k nx != 0) = false := by rw [hc]; rfl
      refine ⟨_, _, rfl, ifP_nne hc.symm (ifP_nne hc.symm (ifP_f ?_ ?_))⟩
      · rw [hb]; rfl
      rw [hb]
      refine ifP_f rfl (ifP_f hb ⟨_, d6.c0, _, d6.c1, _, d6.c2, _, d6.c3, _, d6.c4, _, _, _, d6.c5, letA fun w7 h7 x7 s7 => st6 h7 rfl (vs := [.bool k.ac, .bool k.pf, .int .i64 k.mp, .int .u32 nx, .bool false, .slice none 0 0]) rfl rfl fun w8 h8 k8 => ?_⟩)
      have x68 : Go.Rd.Ext w6 w8 := x7.fresh k8 fun i hi => by rw [hi]; exact Nat.le_refl _
      have z4 := x04.size
      have z24 := x24.size
      have z5 := x5.size
      have z6 := x6.size
      have d8 : DAt w8 w6.heap.size (· = w6.heap.size) ⟨k, nx, false, []⟩ none 0 :=
        ⟨h8, .inl ⟨rfl, rfl, rfl⟩, fun j => ⟨fun h => .inl h, fun h => h.elim id fun h => absurd h blk_none⟩⟩
      have l4 : w2.heap.size < w4.heap.size := (Array.getElem?_eq_some_iff.1 d4.cell).1
      have l5 : bu < w5.heap.size := ok5.lt rfl
      have l6 : bo < w6.heap.size := ok6.lt rfl
      have okk : (BSt.mk k nx false []).ok := ⟨hg, ⟨n0, hx⟩, fun _ => rfl, Nat.zero_le _⟩
      refine feeds_loop hfr hp hn fn 0 rfl (Nat.zero_le _) w8 (· = w2.heap.size) (· = bu) (· = w6.heap.size) (· = bo) _ _ (((x04.trans x5).trans x6).trans x68) ⟨⟨_, _, d6.ext x68⟩, (ok5.ext x6).ext x68, okk, fun j hj => by rw [hj]; exact z02, fun j hj => by rw [hj]; omega, fun j h1 h2 => by omega⟩
        ⟨⟨_, _, d8⟩, ok6.ext x68, okk, fun j hj => by rw [hj]; omega, fun j hj => by rw [hj]; omega, fun j h1 h2 => by omega⟩ (fun j h1 h2 => by omega) (fun j h1 h2 => by omega) (fun j h1 h2 => by omega) fun j h1 h2 => by omega
end
end Go.Proofs.Ytgjabpgkiaojhaa
