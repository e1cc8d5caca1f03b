/- pile over I: its types; swap, ahead. -/
import Derived.Test.YtdebokambldbbaaPileMem
import Derived.Test.YtdebokambldbbaaProg
namespace Go.Proofs.Ytdebokambldbbaa.PileI
open Go.RowKit Go.Proofs.Ytdebokambldbbaa.Mem Go.Proofs.Ytdebokambldbbaa.Heap Go.Proofs.Ytdebokambldbbaa.Pile Go.Proofs.Ytdebokambldbbaa.Float
set_option linter.unusedVariables false

theorem AE : Arr Try.prog 79 [.int .i64 0, .int .i64 0, .int .u64 0] := Arr.mk' Try.underlying79 rfl (by kernel_rfl)
theorem AP : Arr Try.prog 77 [.nilFunc, .slice none 0 0, .int .u64 0] := Arr.mk' Try.underlying77 rfl (by kernel_rfl)
theorem EE : Elt Try.prog 74 79 [.int .i64 0, .int .i64 0, .int .u64 0] (16 + 8) := Elt.mkN (z := .agg ([.int .i64 0, .int .i64 0, .int .u64 0] : List Value).toArray) Try.underlying74 (by kernel_rfl) rfl (by decide)

theorem AT : Arr Try.prog 35 [.int .i64 0, .int .i64 0] := Arr.mk' Try.underlying35 rfl (by kernel_rfl)
section
variable {β : Type} {th : Th β 2}
/-- a thing as a value -/
def vl (th : Th β 2) (b : β) : Value := .agg (th.cells b).toArray
theorem loadT {W : World} {g o : Nat} {T : TypeId} {cs : List Value} {b : β} (hB : Blk W g T cs) (hv : (cs.drop o).take 2 = th.cells b) : (Instr.loadAt 35 (.pointer (some ⟨g, o, none⟩))).run Try.prog W = .ok (vl th b) W := run_loadB AT hB _ hv (th.len b)
theorem thing_of (e : β × Nat) : ((ec th e).drop 0).take 2 = th.cells e.1 := by
  unfold ec
  rw [List.drop_zero]
  exact List.take_left' (th.len _)
theorem came_of (e : β × Nat) : (ec th e)[2]? = some (.int .u64 e.2) := by
  unfold ec
  rw [List.getElem?_append_right (by rw [th.len]; exact Nat.le_refl _), th.len]
  rfl
end

section
variable {β : Type} [Inhabited β] {th : Th β 2} {B p : Nat} {v fv : Value} {es : List (β × Nat)} {nx : Nat}
abbrev PlK (th : Th β 2) (W : World) (B p : Nat) (v fv : Value) (es : List (β × Nat)) (nx : Nat) : Prop := Pl th 77 79 W B p v fv es nx

set_option maxRecDepth 4000 in
set_option maxHeartbeats 1600000 in
theorem swap_any (W : World) (h : PlK th W B p v fv es nx) (i j : Nat) (hi : i < es.length) (hj : j < es.length) :
    Calls Try.prog 45 #[.pointer (some ⟨p, 0, none⟩), .int .i64 i, .int .i64 j] W fun e W' => (∃ u, e = .returned u) ∧ PlK th W' B p v fv (swp es i j) nx ∧ W.grownBy W' v.ownBlock ∧ W'.heap.size = W.heap.size := by
  obtain ⟨g, cap, cur, rfl, hBg, hb, ht, hc, hm, hlen, hgp⟩ := h.row (by omega)
  have hcap := h.cap hb
  obtain ⟨n, hn⟩ : ∃ n, n = es.length := ⟨_, rfl⟩
  have c1 : W.cell? ⟨p, 1, none⟩ = some (.slice (some ⟨g, 0, none⟩) n cap) := by rw [hn]; exact h.blk.cell 1
  have hin : (i : Int) < (n : Int) := by omega
  have hjn : (j : Int) < (n : Int) := by omega
  have hi0 : (0 : Int) ≤ (i : Int) := by omega
  have hj0 : (0 : Int) ≤ (j : Int) := by omega
  have ei := ent_at ht hi
  have ej := ent_at ht hj
  have HH := Lib.hid (And.intro h (And.intro hi (And.intro hj (And.intro hBg (And.intro ht (And.intro hc (And.intro hm (And.intro hlen (And.intro hcap hn)))))))))
  clear h hi hj hBg ht hc hm hlen hcap hn
  go_enter Try.func45, Try.ntmps45
  go_wp2
  refine wp_region_float (o := ⟨some 15, _, _, _, _, _⟩) (v := .int .i64 j) 9 24 (by kernel_rfl) (by kernel_rfl) (fun c a w h => h) rfl rfl (fun w => by go_simp) ?_
  simp only [List.take_succ_cons, List.take_zero, List.drop_succ_cons, List.drop_zero, List.cons_append, List.nil_append, Nat.reduceSub]
  iterate 15 still_step
  refine wpStill_loadB (o := ⟨some 22, _, _, _, _, _⟩) AE rfl (.tmp 21) rfl g (j * (2 + 1)) (by go_simp) _ _ hb (ec th (nth es j)) ej (ec_len _ _) ?_
  simp only [Act.put, List.setIfInBounds_toArray, List.set_cons_succ, List.set_cons_zero]
  iterate 6 still_step
  refine wpStill_loadB (o := ⟨some 29, _, _, _, _, _⟩) AE rfl (.tmp 28) rfl g (i * (2 + 1)) (by go_simp) _ _ hb (ec th (nth es i)) ei (ec_len _ _) ?_
  simp only [Act.put, List.setIfInBounds_toArray, List.set_cons_succ, List.set_cons_zero]
  refine wpStill_nil ?_
  obtain ⟨h, hi, hj, hBg, ht, hc, hm, hlen, hcap, hn⟩ := HH.out
  have hmi : i * (2 + 1) + (2 + 1) ≤ cur.length := by
    have : (i + 1) * (2 + 1) ≤ es.length * (2 + 1) := Nat.mul_le_mul_right _ hi
    rw [Nat.add_mul] at this; omega
  have hmj : j * (2 + 1) + (2 + 1) ≤ cur.length := by
    have : (j + 1) * (2 + 1) ≤ es.length * (2 + 1) := Nat.mul_le_mul_right _ hj
    rw [Nat.add_mul] at this; omega
  have hl1 := splice_len cur (ec th (nth es j)) (i * (2 + 1)) (by rw [ec_len]; exact hmi)
  have t1 := ent_set ht hlen hi (nth es j)
  have t2 := ent_set t1 (by rw [List.length_set, hl1]; exact hlen) (i := j) (by rw [List.length_set]; exact hj) (nth es i)
  have hl2 := splice_len (splice cur (i * (2 + 1)) (ec th (nth es j))) (ec th (nth es i)) (j * (2 + 1)) (by rw [ec_len, hl1]; exact hmj)
  have HT := Lib.hid (And.intro t2 (And.intro hl1 (And.intro hl2 (And.intro hmi hmj))))
  clear t1 t2 hl1 hl2 hmi hmj h hi hj hBg ht hc hm hlen hcap hn ei ej c1
  go_wp2_with (first
    | ((with_reducible show wpList _ _ _ (⟨none, .store 79 (.tmp 30) _, _, _, _, _⟩ :: _) _ _); go_must (refine wpList_storeB (op := ⟨none, .store 79 (.tmp 30) _, _, _, _, _⟩) AE rfl (.tmp 30) (.tmp 22) rfl g (i * (2 + 1)) (by go_simp) (ec th (nth es j)) (by go_simp) (ec_len _ _) _ _ hb (by rw [ec_len]; exact HT.out.2.2.2.1) (ec_one th _) ?_); intro w1 hb1 hg1 hz1)
    | ((with_reducible show wpList _ _ _ (⟨none, .store 79 (.tmp 31) _, _, _, _, _⟩ :: _) _ _); go_must (refine wpList_storeB (op := ⟨none, .store 79 (.tmp 31) _, _, _, _, _⟩) AE rfl (.tmp 31) (.tmp 29) rfl g (j * (2 + 1)) (by go_simp) (ec th (nth es i)) (by go_simp) (ec_len _ _) _ _ hb1 (by rw [ec_len, HT.out.2.1]; exact HT.out.2.2.2.2) (ec_one th _) ?_); intro w2 hb2 hg2 hz2))
  go_end0
  obtain ⟨h, hi, hj, hBg, ht, hc, hm, hlen, hcap, hn⟩ := HH.out
  have hgg : W.grownBy w2 (some g) := World.grownBy.trans (show W.grownBy w1 (some g) from ⟨hg1.os, hg1.tape, hg1.output, hg1.size, hg1.block⟩) hg2
  refine ⟨⟨_, rfl⟩, ?_, hgg, hz2.trans hz1⟩
  have hls : (swp es i j).length = es.length := swp_len es i j
  have := h.stored hgg hb2 hls hBg (by rw [HT.out.2.2.1, HT.out.2.1]; exact hcap) hc hm HT.out.1
  rw [hls] at this
  exact this

set_option maxRecDepth 4000 in
set_option maxHeartbeats 3200000 in
theorem ahead_any {w0 : World} {D : β → Prop} {lt : β → β → Bool} (W : World) (h : PlK th W B p v fv es nx) (hL : Less Try.prog B w0 (vl th) D fv lt) (hw : Below B w0 W) (hB : B ≤ W.heap.size) (hD : ∀ e ∈ es, D e.1) (i j : Nat) (hi : i < es.length) (hj : j < es.length) :
    Calls Try.prog 74 #[.pointer (some ⟨p, 0, none⟩), .int .i64 i, .int .i64 j] W fun e W' => e = .returned (.bool (Heap.ahead lt (nth es i) (nth es j))) ∧ Below W.heap.size W W' := by
  obtain ⟨g, cap, cur, rfl, hBg, hb, ht, hc, hm, hlen, hgp⟩ := h.row (by omega)
  obtain ⟨gl, lb, rfl, egl, hcall⟩ := hL.ex
  obtain ⟨n, hn⟩ : ∃ n, n = es.length := ⟨_, rfl⟩
  have hP : Blk W p 77 [.func (.func gl) #[] lb, .slice (some ⟨g, 0, none⟩) n cap, .int .u64 nx] := by rw [hn]; exact h.blk
  have hin : (i : Int) < (n : Int) := by omega
  have hjn : (j : Int) < (n : Int) := by omega
  have hi0 : (0 : Int) ≤ (i : Int) := by omega
  have hj0 : (0 : Int) ≤ (j : Int) := by omega
  have ei := ent_at ht hi
  have ej := ent_at ht hj
  have di := hD _ (nth_mem hi)
  have dj := hD _ (nth_mem hj)
  have HD := Lib.hid (And.intro di dj)
  have HC := Lib.hid hcall
  have HW := Lib.hid (And.intro hw hB)
  clear h hi hj hBg ht hc hm hlen hn hcall hD di dj hL hw hB
  have cW : ∀ w', Below W.heap.size W w' → w'.cell? ⟨p, 1, none⟩ = some (.slice (some ⟨g, 0, none⟩) n cap) := fun w' hb' => (hP.grow hb').cell 1
  have hbW : ∀ w', Below W.heap.size W w' → Blk w' g 79 cur := fun w' hb' => hb.grow hb'
  go_enter Try.func74, Try.ntmps74
  go_wp2
  obtain ⟨R, hR⟩ : ∃ R, R = TurnsB W.heap.size 79 [.int .i64 0, .int .i64 0, .int .u64 0] (ec th (nth es i)) := ⟨_, rfl⟩
  have hRb : ∀ {a b : World}, Below a.heap.size a b → R a b := fun h => by rw [hR]; exact Turns.of_below h
  have hTu : ∀ {a b : World}, R a b → TurnsB W.heap.size 79 [.int .i64 0, .int .i64 0, .int .u64 0] (ec th (nth es i)) a b := fun h => by rw [hR] at h; exact h
  have hRr : ∀ a : World, R a a := fun a => hRb (gr a)
  have hRt : ∀ a b c, R a b → R b c → R a c := by rw [hR]; exact fun _ _ _ => Turns.trans
  have hRs : ∀ a b, R a b → a.heap.size ≤ b.heap.size := by rw [hR]; exact fun _ _ h => h.2.2.2.1
  have hRd : ∀ a : World, R a a.drew := fun a => hRb (gr a).drew
  have hlow : ∀ {w'}, R W w' → Below W.heap.size W w' := fun h => by rw [hR] at h; exact h.below (Nat.le_refl _)
  try simp only [Act.put, List.setIfInBounds_toArray, List.set_cons_succ, List.set_cons_zero]
  refine wp_region_rrT (R) (hRt) (hRs) (hRd) 17
    [.eq 9 (.pointer (some ⟨p, 0, none⟩)), .eq 10 (.pointer (some ⟨p, 0, none⟩)), .eq 11 (.pointer (some ⟨p, 1, none⟩)), .eq 12 (.slice (some ⟨g, 0, none⟩) n cap), .eq 13 (.int .i64 i), .eq 14 (.pointer (some ⟨g, i * (2 + 1), none⟩)), .eq 15 (.agg (ec th (nth es i)).toArray), .eq 16 (.pointer (some ⟨p, 0, none⟩)), .eq 17 (.pointer (some ⟨p, 0, none⟩)), .eq 18 (.pointer (some ⟨p, 1, none⟩)), .eq 19 (.slice (some ⟨g, 0, none⟩) n cap), .eq 20 (.int .i64 j), .eq 21 (.pointer (some ⟨g, j * (2 + 1), none⟩)), .eq 22 (.agg (ec th (nth es j)).toArray), .new 7 (OrPtr W.heap.size 79 [.int .i64 0, .int .i64 0, .int .u64 0] (ec th (nth es i))), .new 8 (OrPtr W.heap.size 79 [.int .i64 0, .int .i64 0, .int .u64 0] (ec th (nth es i))), .one 7 (NewPtr W.heap.size 79 (ec th (nth es i)))]
    (by kernel_rfl) (by kernel_rfl) (by kernel_rfl) (by kernel_rfl) ?hsta ?hoba ?hfina
  case hsta =>
    intro s hs
    simp only [List.mem_cons, List.not_mem_nil, or_false] at hs
    rcases hs with rfl | rfl | rfl | rfl | rfl | rfl | rfl | rfl | rfl | rfl | rfl | rfl | rfl | rfl | rfl | rfl | rfl
    · exact fun _ _ _ h _ => h
    · exact fun _ _ _ h _ => h
    · exact fun _ _ _ h _ => h
    · exact fun _ _ _ h _ => h
    · exact fun _ _ _ h _ => h
    · exact fun _ _ _ h _ => h
    · exact fun _ _ _ h _ => h
    · exact fun _ _ _ h _ => h
    · exact fun _ _ _ h _ => h
    · exact fun _ _ _ h _ => h
    · exact fun _ _ _ h _ => h
    · exact fun _ _ _ h _ => h
    · exact fun _ _ _ h _ => h
    · exact fun _ _ _ h _ => h
    · rintro vs w1 w2 ⟨v, rfl, h⟩ hb
      exact ⟨_, rfl, (fun h hb => OrPtr.turns h (hTu hb)) h hb⟩
    · rintro vs w1 w2 ⟨v, rfl, h⟩ hb
      exact ⟨_, rfl, (fun h hb => OrPtr.turns h (hTu hb)) h hb⟩
    · rintro vs w1 w2 ⟨v, rfl, h⟩ hb
      exact ⟨_, rfl, (fun h hb => NewPtr.turns h (hTu hb)) h hb⟩
  case hoba =>
    simp only [List.take_succ_cons, List.take_zero]
    refine rrs_cons ?_ (rrs_cons ?_ (rrs_cons ?_ (rrs_cons ?_ (rrs_cons ?_ (rrs_cons ?_ (rrs_cons ?_ (rrs_cons ?_ (rrs_cons ?_ (rrs_cons ?_ (rrs_cons ?_ (rrs_cons ?_ (rrs_cons ?_ (rrs_cons ?_ (rrs_cons ?_ (rrs_cons ?_ (rrs_cons ?_ rrs_nil))))))))))))))))
    · refine rr_eq hRr (by decide) (by rfl) (by rfl) fun x w' A hg hp hA => ?_
      have e0 := hA 0
      simp [rgDsts] at e0
      go_simp
    · refine rr_eq hRr (by decide) (by rfl) (by rfl) fun x w' A hg hp hA => ?_
      have h9 := rg_pred_eq (d := 9) hp 0 rfl rfl rfl
      have e9 := (hA.at_ 9 rfl).trans h9
      go_simp
    · refine rr_eq hRr (by decide) (by rfl) (by rfl) fun x w' A hg hp hA => ?_
      have h10 := rg_pred_eq (d := 10) hp 0 rfl rfl rfl
      have e10 := (hA.at_ 10 rfl).trans h10
      go_simp
    · refine rr_eq hRr (by decide) (by rfl) (by rfl) fun x w' A hg hp hA => ?_
      have h11 := rg_pred_eq (d := 11) hp 0 rfl rfl rfl
      have e11 := (hA.at_ 11 rfl).trans h11
      have c1 := cW w' (hlow hg)
      go_simp
    · refine rr_eq hRr (by decide) (by rfl) (by rfl) fun x w' A hg hp hA => ?_
      have e1 := hA 1
      simp [rgDsts] at e1
      go_simp
    · refine rr_eq hRr (by decide) (by rfl) (by rfl) fun x w' A hg hp hA => ?_
      have h12 := rg_pred_eq (d := 12) hp 0 rfl rfl rfl
      have h13 := rg_pred_eq (d := 13) hp 1 rfl rfl rfl
      have e12 := (hA.at_ 12 rfl).trans h12
      have e13 := (hA.at_ 13 rfl).trans h13
      go_simp
    · refine rr_wp (by decide) (by rfl) fun x w' A hg hp hA K' hK' => ?_
      have h14 := rg_pred_eq (d := 14) hp 0 rfl rfl rfl
      have e14 := (hA.at_ 14 rfl).trans h14
      refine wp_loadB AE _ rfl g (i * (2 + 1)) ?_ _ _ (hbW w' (hlow hg)) (ec th (nth es i)) ei (ec_len _ _) ?_
      · simpa [Act.eval] using e14
      · exact hK' _ _ (hRr _) (by simp) (by simp)
    · refine rr_eq hRr (by decide) (by rfl) (by rfl) fun x w' A hg hp hA => ?_
      have e0 := hA 0
      simp [rgDsts] at e0
      go_simp
    · refine rr_eq hRr (by decide) (by rfl) (by rfl) fun x w' A hg hp hA => ?_
      have h16 := rg_pred_eq (d := 16) hp 0 rfl rfl rfl
      have e16 := (hA.at_ 16 rfl).trans h16
      go_simp
    · refine rr_eq hRr (by decide) (by rfl) (by rfl) fun x w' A hg hp hA => ?_
      have h17 := rg_pred_eq (d := 17) hp 0 rfl rfl rfl
      have e17 := (hA.at_ 17 rfl).trans h17
      go_simp
    · refine rr_eq hRr (by decide) (by rfl) (by rfl) fun x w' A hg hp hA => ?_
      have h18 := rg_pred_eq (d := 18) hp 0 rfl rfl rfl
      have e18 := (hA.at_ 18 rfl).trans h18
      have c1 := cW w' (hlow hg)
      go_simp
    · refine rr_eq hRr (by decide) (by rfl) (by rfl) fun x w' A hg hp hA => ?_
      have e2 := hA 2
      simp [rgDsts] at e2
      go_simp
    · refine rr_eq hRr (by decide) (by rfl) (by rfl) fun x w' A hg hp hA => ?_
      have h19 := rg_pred_eq (d := 19) hp 0 rfl rfl rfl
      have h20 := rg_pred_eq (d := 20) hp 1 rfl rfl rfl
      have e19 := (hA.at_ 19 rfl).trans h19
      have e20 := (hA.at_ 20 rfl).trans h20
      go_simp
    · refine rr_wp (by decide) (by rfl) fun x w' A hg hp hA K' hK' => ?_
      have h21 := rg_pred_eq (d := 21) hp 0 rfl rfl rfl
      have e21 := (hA.at_ 21 rfl).trans h21
      refine wp_loadB AE _ rfl g (j * (2 + 1)) ?_ _ _ (hbW w' (hlow hg)) (ec th (nth es j)) ej (ec_len _ _) ?_
      · simpa [Act.eval] using e21
      · exact hK' _ _ (hRr _) (by simp) (by simp)
    · refine rr_val (by decide) (by rfl) fun x w' A hg hp hA => ?_
      refine ⟨_, _, run_allocB AE rfl, hRb (ga (gr _) _), ?_, ?_⟩
      · exact ⟨_, rfl, _, by simp [rgUpd], (hlow hg).size, .inl (Blk.new w' _ _)⟩
      · simp [blockOf]
    · refine rr_val (by decide) (by rfl) fun x w' A hg hp hA => ?_
      refine ⟨_, _, run_allocB AE rfl, hRb (ga (gr _) _), ?_, ?_⟩
      · exact ⟨_, rfl, _, by simp [rgUpd], (hlow hg).size, .inl (Blk.new w' _ _)⟩
      · simp [blockOf]
    · refine rr_wp (by decide) (by rfl) fun x w' A hg hp hA K' hK' => ?_
      have h7 := rg_pred_new (d := 7) hp 0 rfl rfl rfl
      have h15 := rg_pred_eq (d := 15) hp 1 rfl rfl rfl
      have h9 := rg_pred_eq (d := 9) hp 2 rfl rfl rfl
      have h10 := rg_pred_eq (d := 10) hp 3 rfl rfl rfl
      have h11 := rg_pred_eq (d := 11) hp 4 rfl rfl rfl
      have h12 := rg_pred_eq (d := 12) hp 5 rfl rfl rfl
      have h13 := rg_pred_eq (d := 13) hp 6 rfl rfl rfl
      have h14 := rg_pred_eq (d := 14) hp 7 rfl rfl rfl
      have h8 := rg_pred_new (d := 8) hp 17 rfl rfl rfl
      have e7 := hA.at_ 7 rfl
      have e15 := (hA.at_ 15 rfl).trans h15
      obtain ⟨b, cs, hv7, hb7, hB7, hl7, ho7⟩ := OrPtr.blk h7 (ec_len th (nth es i)).symm
      rw [hv7] at e7
      refine wp_storeB AE (.tmp 7) (.tmp 15) rfl b 0 (by simpa [Act.eval] using e7) (ec th (nth es i)) (by simpa [Act.eval] using e15) (ec_len _ _) 79 cs hB7 (by rw [hl7, Nat.zero_add]; exact Nat.le_refl _) (ec_one th _) fun w'' hB'' hg'' hz'' => ?_
      rw [splice_all cs (ec th (nth es i)) hl7.symm] at hB''
      exact hK' _ _ (by rw [hR]; exact Turns.store hb7 (ho7.elim (fun e => .inl (e ▸ hB7)) (fun e => .inr (e ▸ hB7))) hB'' hg'') ⟨_, rfl, b, by simpa [rgUpd] using hv7, hb7, hB''⟩ (by simp)
  case hfina =>
  intro x w1 hg hall hap
  simp only [RgAll, holds_eq, holds_new, holds_one, and_true] at hall
  obtain ⟨h9, h10, h11, h12, h13, h14, h15, h16, h17, h18, h19, h20, h21, h22, ⟨b7, h7, l7, _⟩, h8, ⟨b7', h7', _, hB7⟩⟩ := hall
  rw [h7] at h7'
  cases h7'
  obtain ⟨b8, cs8, h8, l8, hB8, hl8, _⟩ := OrPtr.blk h8 (ec_len th (nth es i)).symm
  simp [RgApart, h7, h8, blockOf] at hap
  simp only [rgDsts, List.take_succ_cons, List.take_zero, List.filterMap_cons, List.filterMap_nil, putMany, List.foldl_cons, List.foldl_nil, List.setIfInBounds_toArray, List.set_cons_succ, List.set_cons_zero, List.drop_succ_cons, List.drop_zero, h9, h10, h11, h12, h13, h14, h15, h16, h17, h18, h19, h20, h21, h22, h7, h8]
  clear h9 h10 h11 h12 h13 h14 h15 h16 h17 h18 h19 h20 h21 h22 h7 h8
  replace hg := hlow hg
  clear hTu hRb hRr hRt hRs hRd hlow hR
  have hB22 := hl8
  go_wp2_with (first
    | ((with_reducible show wpList _ _ _ (⟨none, .store 79 (.tmp 8) _, _, _, _, _⟩ :: _) _ _); go_must (refine wpList_storeB (op := ⟨none, .store 79 (.tmp 8) _, _, _, _, _⟩) AE rfl (.tmp 8) (.tmp 22) rfl b8 0 (by go_simp) (ec th (nth es j)) (by go_simp) (ec_len _ _) _ _ hB8 (by rw [hl8, ec_len, ec_len, Nat.zero_add]; exact Nat.le_refl _) (ec_one th _) ?_); intro w2 hB82 hg2 hz2))
  rw [splice_all _ _ (by rw [hl8, ec_len, ec_len])] at hB82
  have hb2 : Below W.heap.size W w2 := hg.grown hg2 hg.size (fun k hk => by simp at hk; omega)
  have hP2 : Blk w2 p 77 _ ∧ Blk w2 b7 79 (ec th (nth es i)) ∧ Blk w2 b8 79 (ec th (nth es j)) := ⟨hP.grow hb2, hB7.grown hg2 (by simpa using hap), hB82⟩
  clear hB7 hB82 hB8 hg2 hz2 h8 hap hg hl8 ei ej cW hbW hb
  try simp only [Act.put, List.setIfInBounds_toArray, List.set_cons_succ, List.set_cons_zero]
  refine wp_region_qb (by kernel_rfl) (by kernel_rfl) ?_
  refine wq_val (o := ⟨some 23, _, _, _, _, _⟩) (v := .pointer (some ⟨p, 0, none⟩)) rfl (fun w' hC => by go_simp) ?_
  simp only [Act.put, List.setIfInBounds_toArray, List.set_cons_succ, List.set_cons_zero]
  refine wq_val (o := ⟨some 24, _, _, _, _, _⟩) (v := .pointer (some ⟨p, 0, none⟩)) rfl (fun w' hC => by go_simp) ?_
  simp only [Act.put, List.setIfInBounds_toArray, List.set_cons_succ, List.set_cons_zero]
  refine wq_val (o := ⟨some 25, _, _, _, _, _⟩) (v := .pointer (some ⟨p, 0, none⟩)) rfl (fun w' hC => by go_simp) ?_
  simp only [Act.put, List.setIfInBounds_toArray, List.set_cons_succ, List.set_cons_zero]
  refine wq_val (o := ⟨some 26, _, _, _, _, _⟩) (v := .func (.func gl) #[] lb) rfl (fun w' hC => by have c0 := (From.blk hC hP2.1).cell 0; simp only [List.getElem?_cons_zero] at c0; go_simp) ?_
  simp only [Act.put, List.setIfInBounds_toArray, List.set_cons_succ, List.set_cons_zero]
  refine wq_val (o := ⟨some 27, _, _, _, _, _⟩) (v := .pointer (some ⟨b7, 0, none⟩)) rfl (fun w' hC => by go_simp) ?_
  simp only [Act.put, List.setIfInBounds_toArray, List.set_cons_succ, List.set_cons_zero]
  refine wq_loadT (o := ⟨some 28, _, _, _, _, _⟩) rfl _ rfl (vl th (nth es i).1) ⟨b7, 0, none⟩ rfl (fun w' hC => loadT (From.blk hC hP2.2.1) (thing_of _)) ?_
  simp only [Act.put, List.setIfInBounds_toArray, List.set_cons_succ, List.set_cons_zero]
  refine wq_val (o := ⟨some 29, _, _, _, _, _⟩) (v := .pointer (some ⟨b8, 0, none⟩)) rfl (fun w' hC => by go_simp) ?_
  simp only [Act.put, List.setIfInBounds_toArray, List.set_cons_succ, List.set_cons_zero]
  refine wq_loadT (o := ⟨some 30, _, _, _, _, _⟩) rfl _ rfl (vl th (nth es j).1) ⟨b8, 0, none⟩ rfl (fun w' hC => loadT (From.blk hC hP2.2.2) (thing_of _)) ?_
  simp only [Act.put, List.setIfInBounds_toArray, List.set_cons_succ, List.set_cons_zero]
  refine wq_call (f := gl) (args := #[vl th (nth es i).1, vl th (nth es j).1] ++ lb) (v := .bool (lt (nth es i).1 (nth es j).1)) rfl (fun w' _ => by go_simp) (fun w' hC => HC.out w' _ _ (HW.out.1.trans ((hb2 : Below W.heap.size W _).trans (hC.mono (by have := (hb2 : Below W.heap.size W _).size; omega)) |>.mono HW.out.2)) HD.out.1 HD.out.2) ?_
  simp only [Act.put, List.setIfInBounds_toArray, List.set_cons_succ, List.set_cons_zero]
  refine wpQuiet_nil ?_
  intro w3 h3
  have hb3 : Below W.heap.size W w3 := gt hb2 h3
  have hP3 : Blk w3 p 77 _ ∧ Blk w3 b7 79 (ec th (nth es i)) ∧ Blk w3 b8 79 (ec th (nth es j)) := ⟨hP2.1.grow h3, hP2.2.1.grow h3, hP2.2.2.grow h3⟩
  clear h3 hb2 hP2
  cases h1 : lt (nth es i).1 (nth es j).1 with
  | true =>
    have e1 : Heap.ahead lt (nth es i) (nth es j) = true := by unfold Heap.ahead; rw [h1]; rfl
    have HE := Lib.hid e1
    clear e1
    go_wp2
    go_ret
    exact ⟨by rw [HE.out]; rfl, hb3⟩
  | false =>
    go_wp2
    try simp only [Act.put, List.setIfInBounds_toArray, List.set_cons_succ, List.set_cons_zero]
    refine wp_region_qb (by kernel_rfl) (by kernel_rfl) ?_
    refine wq_val (o := ⟨some 32, _, _, _, _, _⟩) (v := .pointer (some ⟨p, 0, none⟩)) rfl (fun w' hC => by go_simp) ?_
    simp only [Act.put, List.setIfInBounds_toArray, List.set_cons_succ, List.set_cons_zero]
    refine wq_val (o := ⟨some 33, _, _, _, _, _⟩) (v := .pointer (some ⟨p, 0, none⟩)) rfl (fun w' hC => by go_simp) ?_
    simp only [Act.put, List.setIfInBounds_toArray, List.set_cons_succ, List.set_cons_zero]
    refine wq_val (o := ⟨some 34, _, _, _, _, _⟩) (v := .pointer (some ⟨p, 0, none⟩)) rfl (fun w' hC => by go_simp) ?_
    simp only [Act.put, List.setIfInBounds_toArray, List.set_cons_succ, List.set_cons_zero]
    refine wq_val (o := ⟨some 35, _, _, _, _, _⟩) (v := .func (.func gl) #[] lb) rfl (fun w' hC => by have c0 := (From.blk hC hP3.1).cell 0; simp only [List.getElem?_cons_zero] at c0; go_simp) ?_
    simp only [Act.put, List.setIfInBounds_toArray, List.set_cons_succ, List.set_cons_zero]
    refine wq_val (o := ⟨some 36, _, _, _, _, _⟩) (v := .pointer (some ⟨b8, 0, none⟩)) rfl (fun w' hC => by go_simp) ?_
    simp only [Act.put, List.setIfInBounds_toArray, List.set_cons_succ, List.set_cons_zero]
    refine wq_loadT (o := ⟨some 37, _, _, _, _, _⟩) rfl _ rfl (vl th (nth es j).1) ⟨b8, 0, none⟩ rfl (fun w' hC => loadT (From.blk hC hP3.2.2) (thing_of _)) ?_
    simp only [Act.put, List.setIfInBounds_toArray, List.set_cons_succ, List.set_cons_zero]
    refine wq_val (o := ⟨some 38, _, _, _, _, _⟩) (v := .pointer (some ⟨b7, 0, none⟩)) rfl (fun w' hC => by go_simp) ?_
    simp only [Act.put, List.setIfInBounds_toArray, List.set_cons_succ, List.set_cons_zero]
    refine wq_loadT (o := ⟨some 39, _, _, _, _, _⟩) rfl _ rfl (vl th (nth es i).1) ⟨b7, 0, none⟩ rfl (fun w' hC => loadT (From.blk hC hP3.2.1) (thing_of _)) ?_
    simp only [Act.put, List.setIfInBounds_toArray, List.set_cons_succ, List.set_cons_zero]
    refine wq_call (f := gl) (args := #[vl th (nth es j).1, vl th (nth es i).1] ++ lb) (v := .bool (lt (nth es j).1 (nth es i).1)) rfl (fun w' _ => by go_simp) (fun w' hC => HC.out w' _ _ (HW.out.1.trans ((hb3 : Below W.heap.size W _).trans (hC.mono (by have := (hb3 : Below W.heap.size W _).size; omega)) |>.mono HW.out.2)) HD.out.2 HD.out.1) ?_
    simp only [Act.put, List.setIfInBounds_toArray, List.set_cons_succ, List.set_cons_zero]
    refine wpQuiet_nil ?_
    intro w4 h4
    have hb4 : Below W.heap.size W w4 := gt hb3 h4
    have hP4 : Blk w4 b7 79 (ec th (nth es i)) ∧ Blk w4 b8 79 (ec th (nth es j)) := ⟨hP3.2.1.grow h4, hP3.2.2.grow h4⟩
    clear h4 hb3 hP3
    cases h2 : lt (nth es j).1 (nth es i).1 with
    | true =>
      have e1 : Heap.ahead lt (nth es i) (nth es j) = false := by unfold Heap.ahead; rw [h1, h2]; rfl
      have HE := Lib.hid e1
      clear e1
      go_wp2
      go_ret
      exact ⟨by rw [HE.out]; rfl, hb4⟩
    | false =>
      have e1 : Heap.ahead lt (nth es i) (nth es j) = decide ((nth es i).2 < (nth es j).2) := by unfold Heap.ahead; rw [h1, h2]; rfl
      have HE := Lib.hid e1
      clear e1
      have c7 : w4.cell? ⟨b7, 2, none⟩ = some (.int .u64 (nth es i).2) := by rw [hP4.1.cell]; exact came_of _
      have c8 : w4.cell? ⟨b8, 2, none⟩ = some (.int .u64 (nth es j).2) := by rw [hP4.2.cell]; exact came_of _
      have hd : (((nth es i).2 : Int) < ((nth es j).2 : Int)) ↔ (nth es i).2 < (nth es j).2 := Int.ofNat_lt
      go_wp2
      go_ret
      exact ⟨by rw [HE.out]; simp [hd], hb4⟩
end
end Go.Proofs.Ytdebokambldbbaa.PileI
