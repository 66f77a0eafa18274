/- Chain: the sums of a chain of texts. -/
import Derived.Test.YtcnbnhncncgkaaaSLink
import Derived.Test.YtcnbnhncncgkaaaChains
namespace Go.Proofs.Ytcnbnhncncgkaaa
set_option linter.unusedVariables false
set_option linter.unusedSimpArgs false
open Go Go.RowKit
theorem sumInfo' : (Try.prog.info? 29).map (fun i => (i.zero, i.size, i.bytes)) = some (some (smV (zb 32)), 32, 32) := by kernel_rfl
theorem fold_build (l : List Value) : ∀ (pre suf : List Value), suf.length = l.length → (l.zipIdx pre.length).foldl (fun (cs : Array Value) (x : Value × Nat) => cs.setIfInBounds x.snd x.fst) (pre ++ suf).toArray = (pre ++ l).toArray := by
  induction l with
  | nil => intro pre suf h; have : suf = [] := List.length_eq_zero_iff.1 h; subst this; rfl
  | cons v l ih =>
    intro pre suf h
    cases suf with
    | nil => simp at h
    | cons y suf =>
      rw [List.zipIdx_cons, List.foldl_cons]
      have e : (pre ++ y :: suf).toArray.setIfInBounds pre.length v = ((pre ++ [v]) ++ suf).toArray := by
        simp
      show List.foldl _ ((pre ++ y :: suf).toArray.setIfInBounds pre.length v) _ = _
      rw [e]
      have := ih (pre ++ [v]) suf (by simpa using h)
      rw [List.length_append, List.length_singleton] at this
      rw [this]
      simp
theorem build32 {l : List UInt8} (h : l.length = 32) : List.foldl (fun (cs : Array Value) (x : Value × Nat) => cs.setIfInBounds x.snd x.fst) #[Value.int IntKind.u8 0, Value.int IntKind.u8 0, Value.int IntKind.u8 0, Value.int IntKind.u8 0, Value.int IntKind.u8 0, Value.int IntKind.u8 0, Value.int IntKind.u8 0, Value.int IntKind.u8 0, Value.int IntKind.u8 0, Value.int IntKind.u8 0, Value.int IntKind.u8 0, Value.int IntKind.u8 0, Value.int IntKind.u8 0, Value.int IntKind.u8 0, Value.int IntKind.u8 0, Value.int IntKind.u8 0, Value.int IntKind.u8 0, Value.int IntKind.u8 0, Value.int IntKind.u8 0, Value.int IntKind.u8 0, Value.int IntKind.u8 0, Value.int IntKind.u8 0, Value.int IntKind.u8 0, Value.int IntKind.u8 0, Value.int IntKind.u8 0, Value.int IntKind.u8 0, Value.int IntKind.u8 0, Value.int IntKind.u8 0, Value.int IntKind.u8 0, Value.int IntKind.u8 0, Value.int IntKind.u8 0, Value.int IntKind.u8 0] (u8s l).zipIdx = (u8s l).toArray := by
  have := fold_build (u8s l) [] (u8s (zb 32)) (by rw [u8s_length, u8s_length, h]; rfl)
  exact this
def ChRel (w : World) (bx : Nat) (first : List UInt8) (ps : List (List UInt8)) (out k : Value) (wr : World) : Prop :=
  ∃ i : Nat, i ≤ ps.length ∧ k = .int .i64 i ∧ Has w wr [SmA bx (chainEnd first (ps.take i)), rowA 29 32 out i (u8s (chain first (ps.take i)).flatten)]
theorem NumsAt.ext' {k : IntKind} {w w' : World} {p : Option Addr} {zs : List Int} (h : NumsAt k w p zs) (hE : Ext w w') : NumsAt k w' p zs := h.ext hE
set_option maxRecDepth 100000 in
set_option maxHeartbeats 4000000 in
theorem chain_any (w : World) (first : List UInt8) (hf : first.length = 32) (p : Option Addr) (c : Nat) (ps : List (List UInt8)) (hp : PartsAt (fun _ => False) w p ps) (hl : ps.length ≤ 1000) (hsm : ∀ x ∈ ps, x.length ≤ 70368744177664) :
    Calls Try.prog 12 #[smV first, .slice p ps.length c] w fun e w' => ∃ v, e = .returned v ∧ Has w w' [rowA 29 32 v ps.length (u8s (chain first ps).flatten)] := by
  obtain ⟨i0, hi0, hz0, hz1, hz2⟩ := info_parts sumInfo'
  go_enter Try.func12, Try.ntmps12
  go_wp2_with fail
  have hH : Has w (w.alloc (.cells (u8s first).toArray 29)) [SmA w.heap.size first, rowA 29 32 (.slice none 0 0) 0 (u8s [])] := by
    have h1 := (Has.nil (Ext.refl w)).add .nil (Ext.refl w) (p := rowA 29 32 (.slice none 0 0) 0 (u8s [])) (F := fun k => (Value.slice none 0 0).ownBlock = some k) ⟨World.ownsRow_nil _ _ _ _, rfl⟩ (fun k hk => by simp [Value.ownBlock] at hk)
    exact h1.add (.cons (rowA_loc _ _ _ _ _) .nil) (ext_alloc w (.cells (u8s first).toArray 29)) (p := SmA w.heap.size first) (F := fun k => k = w.heap.size) ⟨Blk.new _ _ _, rfl⟩ (fun k hk => by omega)
  generalize hX : w.alloc (.cells (u8s first).toArray 29) = X at *
  clear hX
  generalize hbx : w.heap.size = bx at *
  go_loopw [5, 10] (fun out k wr => ChRel w bx first ps out k wr) (fun _ k _ => ((ps.length : Int) + 1 - intOf k).toNat)
  case atStart => exact ⟨0, by omega, rfl, hH⟩
  case round =>
    clear hH
    obtain ⟨i, hi, rfl, hH⟩ := hrel
    by_cases gi : (i : Int) < ps.length
    · obtain ⟨b, o, rfl, qq, cq, hc, hN, hn, hc1, hc2⟩ := hp.get (Tch.of_ext hH.base) i (by omega)
      have hxs := hsm _ (List.getElem_mem (show i < ps.length by omega))
      have hNr := hN wr (Tch.of_ext hH.base)
      have hend : chainEnd first (ps.take (i + 1)) = sha (chainEnd first (ps.take i) ++ ps[i]'(by omega)) := by
        rw [List.take_succ_eq_append_getElem (by omega), chainEnd_snoc]
      have hall : chain first (ps.take (i + 1)) = chain first (ps.take i) ++ [sha (chainEnd first (ps.take i) ++ ps[i]'(by omega))] := by
        rw [List.take_succ_eq_append_getElem (by omega), chain_snoc]
      have hel := chainEnd_len (ps.take i) first hf
      generalize ps[i]'(by omega) = x at *
      generalize chainEnd first (ps.take i) = pr at *
      have HL := link_any wr pr x hel qq cq hNr hn hc1 hc2 hxs
      have hsl := sha_len (pr ++ x)
      generalize sha (pr ++ x) = bt at *
      have HE := Lib.hid hend
      have HA := Lib.hid hall
      clear hend hall
      generalize chain first (ps.take i) = ch at *
      obtain ⟨F0, hF0⟩ := hH.head
      have hB := hF0.1
      go_wp2_with (refine wpList_load_row rfl _ _ rfl bx rfl _ _ _ _ hB Try.underlying29 rfl (smSize hel) ?_)
      refine HL.mono ?_
      rintro e w2 ⟨rfl, hE2⟩
      have hH2 := hH.ext (.cons (SmA_loc _ _) (.cons (rowA_loc _ _ _ _ _) .nil)) hE2
      obtain ⟨F2, hF2⟩ := hH2.head
      have hB2 := hF2.1
      have hH3 := BdA_row (l' := bt) hH2 (.cons (rowA_loc _ _ _ _ _) .nil)
      go_upto_region 6 with (refine wpList_store_row rfl _ _ _ rfl bx (u8s bt).toArray rfl rfl _ _ hB2 (smSize hsl) (by simp [u8s, hel, hsl]) (u8s_oneAll _) ?_)
      clear hB hF0 hB2 hF2 hH2 hNr HL hH hc
      generalize World.setRow w2 bx (u8s bt).toArray = w3 at *
      obtain ⟨F3, hF3⟩ := hH3.head
      have hB3 := hF3.1
      have hH4 := (hH3.ext (.cons (SmA_loc _ _) (.cons (rowA_loc _ _ _ _ _) .nil)) (ext_alloc w3 (.cells (u8s bt).toArray 29))).swap
      have hnews := news_new w3 (u8s bt) 29
      obtain ⟨F4, hF4⟩ := hH4.head
      have hown := hF4.1
      have hbld := build32 hsl
      have hsz : (u8s bt).toArray.size = 32 := by simp [u8s, hsl]
      have hsz' : (u8s bt).length = 32 := by simp [u8s, hsl]
      clear hsm
      go_wp2_with (first
        | (refine wpList_load_row rfl _ _ rfl bx rfl _ _ _ _ hB3 Try.underlying29 rfl (smSize hsl) ?_)
        | (at_builtin; refine wpList_append_new rfl _ _ 45 rfl 29 i0 (smV (zb 32)) 32 32 Try.underlying45 hi0 hz0 hz1 hz2 rfl (by decide) _ _ _ rfl hown _ 1 1 (u8s bt) rfl (by rw [u8s_length, hsl]) (fun h => by cases h) hnews (u8s_one bt) (by unfold maxLen; omega) (by omega) ?_))
      intro v3 w3' hown3 hg3 hf3
      have hH5 : Has w w3' [rowA 29 32 v3 (i + 1) (u8s ch.flatten ++ u8s bt), SmA bx bt] := hH4.next (.cons (SmA_loc _ _) .nil) fun F hF => by
        obtain ⟨_, rfl⟩ := hF
        exact Next.mk ⟨hown3, rfl⟩ (grownBy.tch hg3) hf3.1
      have hH6 := hH5.swap
      rw [← u8s_append] at hH6
      clear hH4 hH3 hF3 hF4 hB3 hown hnews hbld hsz hsz' hH5 hown3 hg3 hf3
      go_wp2_with fail
      refine ⟨⟨i + 1, by omega, by go_num, ?_⟩, by simp [intOf]; omega⟩
      rw [HE.out, HA.out, List.flatten_append]
      simpa using hH6
    · have hi' : i = ps.length := by omega
      subst hi'
      rw [List.take_length] at *
      go_wp2_with fail
      go_ret
      exact ⟨_, rfl, hH.drop⟩
end Go.Proofs.Ytcnbnhncncgkaaa
