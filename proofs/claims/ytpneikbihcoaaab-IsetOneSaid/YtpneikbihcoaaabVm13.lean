/- An operation that is no call of a function. -/
import Derived.Test.YtpneikbihcoaaabVm12
namespace Go.Proofs.Ytpneikbihcoaaab.Vm
set_option linter.unusedVariables false
set_option linter.unusedSimpArgs false

variable {c : Ctx} {σ : AState} {a : Act} {w : World} {β : List PO}

theorem len_own (h : Rel c σ a w β) {x : Operand} {o ver off len : Nat} {obj : AObj} (hx : σ.rd x = .own o ver off len) (hL : σ.L[o]? = some obj) (hv : obj.ver = ver) : ∃ ad cap, a.eval x = .slice ad len cap := by
  cases hn : obj.nil with
  | false =>
    obtain ⟨po, ad, cap, _, g, _⟩ := h.own hx hL hv hn
    exact ⟨_, _, g⟩
  | true =>
    have := (hx ▸ h.rd x : VR _ (.own o ver off len) _).own
    simp only [memOf, ownX] at this
    obtain ⟨ob, po, k1, k2, k3, k4⟩ := this
    rw [hL] at k1
    obtain rfl := Option.some.inj k1
    have k5 := k4 hv
    rw [if_pos hn] at k5
    obtain ⟨e, rfl, _⟩ := k5
    exact ⟨_, _, e⟩

theorem aop_good (h : Rel c σ a w β) {o : Oper} {x : AV} {L' : List AObj} (he : aop c.P σ o.op = some (x, L')) : Good c σ.L β w x L' ((execOp a.eval o).run c.P w) := by
  cases hop : o.op <;> rw [hop] at he <;> simp only [aop] at he <;> try (cases he; done)
  case move y =>
    simp only [Option.some.injEq, Prod.mk.injEq] at he
    obtain ⟨rfl, rfl⟩ := he
    exact good_move h hop
  case assign y =>
    split at he
    · rename_i hy
      simp only [Option.some.injEq, Prod.mk.injEq] at he
      obtain ⟨rfl, rfl⟩ := he
      exact good_nilrow h hop hy
    · simp only [Option.some.injEq, Prod.mk.injEq] at he
      obtain ⟨rfl, rfl⟩ := he
      exact good_assign h hop
  case pick z y1 y2 =>
    split at he
    · rename_i b hz
      simp only [Option.some.injEq, Prod.mk.injEq] at he
      obtain ⟨rfl, rfl⟩ := he
      rw [pickAV_eq]
      exact good_pick h hop hz
    · cases he
  case alloc t =>
    simp only [Option.bind_eq_some_iff] at he
    obtain ⟨z, hz, he⟩ := he
    split at he
    · simp only [Option.some.injEq, Prod.mk.injEq] at he
      obtain ⟨rfl, rfl⟩ := he
      exact good_alloc h hop hz (by assumption)
    · cases he
  case box t y =>
    split at he
    · rename_i hc
      simp only [Bool.and_eq_true, decide_eq_true_eq] at hc
      simp only [Option.some.injEq, Prod.mk.injEq] at he
      obtain ⟨rfl, rfl⟩ := he
      exact good_box h hop hc.1 hc.2
    · cases he
  case build t parts =>
    split at he
    · rename_i fs n xs ht hz
      split at he
      · cases he
      · rename_i hc
        simp only [Option.map_eq_some_iff, Prod.mk.injEq] at he
        obtain ⟨ys, hf, rfl, rfl⟩ := he
        exact good_build_struct h hop ht hz hf ((Bool.not_eq_false _).mp hc)
    · rename_i l e esz n xs ht hz
      split at he
      · cases he
      · rename_i hc
        simp only [Option.map_eq_some_iff, Prod.mk.injEq] at he
        obtain ⟨ys, hf, rfl, rfl⟩ := he
        exact good_build_arr h hop ht hz hf hc
    · cases he
  case buildSlice t len parts =>
    split at he
    · rename_i e esz eb n ht
      split at he
      · rename_i hc
        simp only [Option.bind_eq_some_iff] at he
        obtain ⟨z, hz, he⟩ := he
        split at he
        · rename_i hsz
          simp only [Option.map_eq_some_iff, Prod.mk.injEq] at he
          obtain ⟨ys, hf, rfl, rfl⟩ := he
          exact good_buildSlice h hop ht hc.1 hc.2 hz hsz hf
        · cases he
      · cases he
    · cases he
  case load t y =>
    split at he
    · rename_i k sz z ht hy
      split at he
      · rename_i hc
        simp only [Option.some.injEq, Prod.mk.injEq] at he
        obtain ⟨rfl, rfl⟩ := he
        exact good_load_ref h hop ht hy hc.1 hc.2
      · cases he
    · rename_i k sz oo ver i path off ht hy
      split at he
      · rename_i obj hL
        split at he
        · rename_i hc
          simp only [Option.bind_eq_some_iff] at he
          obtain ⟨e, he1, z, hz, he⟩ := he
          split at he
          · rename_i hc2
            simp only [Option.some.injEq, Prod.mk.injEq] at he
            obtain ⟨rfl, rfl⟩ := he
            exact good_load_addr h hop ht hy hL hc.1 he1 hz hc2.1 hc2.2.1 hc2.2.2
          · cases he
        · cases he
      · cases he
    · cases he
  case store t y v =>
    split at he
    · rename_i k sz oo ver i path off ht hy
      split at he
      · rename_i obj hL
        split at he
        · rename_i hc
          obtain ⟨c1, c2, c3, c4, c5⟩ := hc
          simp only [Option.bind_eq_some_iff] at he
          obtain ⟨e, he1, z, hz, he⟩ := he
          split at he
          · rename_i hc2
            simp only [Option.map_eq_some_iff, Prod.mk.injEq] at he
            obtain ⟨e', he', rfl, rfl⟩ := he
            exact good_store h hop ht hy hL c1 c3 c4 c5 he1 hz hc2.1 hc2.2 he'
          · cases he
        · cases he
      · cases he
    · cases he
  case nilCheck y =>
    split at he
    · rename_i z hy
      simp only [Option.some.injEq, Prod.mk.injEq] at he
      obtain ⟨rfl, rfl⟩ := he
      exact good_nilCheck_ref h hop hy
    · rename_i oo ver i path off hy
      simp only [Option.bind_eq_some_iff] at he
      obtain ⟨obj, hL, he⟩ := he
      split at he
      · rename_i hv
        simp only [Option.some.injEq, Prod.mk.injEq] at he
        obtain ⟨rfl, rfl⟩ := he
        exact good_nilCheck_addr h hop hy hL hv
      · cases he
    · rename_i f caps hy
      simp only [Option.some.injEq, Prod.mk.injEq] at he
      obtain ⟨rfl, rfl⟩ := he
      exact good_nilCheck_fn h hop hy
    · cases he
  case binOp op t y1 y2 u =>
    simp only [Option.map_eq_some_iff, Prod.mk.injEq] at he
    obtain ⟨z, hz, rfl, rfl⟩ := he
    exact good_binOp h hop hz
  case unOp op t y =>
    simp only [Option.map_eq_some_iff, Prod.mk.injEq] at he
    obtain ⟨z, hz, rfl, rfl⟩ := he
    exact good_unOp h hop hz
  case convert s d y =>
    split at he
    · rename_i ks k nd k' n hs hd hy
      simp only [Option.some.injEq, Prod.mk.injEq] at he
      obtain ⟨rfl, rfl⟩ := he
      exact good_convert_int h hop hs hd hy
    · rename_i ns nd b hs hd hy
      simp only [Option.some.injEq, Prod.mk.injEq] at he
      obtain ⟨rfl, rfl⟩ := he
      exact good_convert_str h hop hs hd hy
    · rename_i ns e esz eb nd b hs hd hy
      split at he
      · rename_i het
        split at he
        · rename_i h1
          subst h1
          simp only [Option.some.injEq, Prod.mk.injEq] at he
          obtain ⟨rfl, rfl⟩ := he
          exact good_bytes h hop hs hd het hy
        · cases he
      · cases he
    · rename_i e esz eb ns nd y' hs hd
      split at he
      · rename_i xs het hxs
        simp only [Option.map_eq_some_iff, Prod.mk.injEq] at he
        obtain ⟨l, hl, rfl, rfl⟩ := he
        exact good_text h hop hs hd het hxs hl
      · cases he
    · cases he
  case makeFunc fn first caps =>
    cases fn <;> simp only [aop] at he <;> try (cases he; done)
    split at he
    · rename_i hc
      simp only [Option.some.injEq, Prod.mk.injEq] at he
      obtain ⟨rfl, rfl⟩ := he
      exact good_makeFunc h hop hc.1 hc.2
    · cases he
  case makeSlice t y1 y2 =>
    split at he
    · rename_i e esz eb ns n m ht h1 h2
      split at he
      · rename_i hc
        obtain ⟨c1, c2, c3, c4, c5⟩ := hc
        simp only [Option.bind_eq_some_iff] at he
        obtain ⟨z, hz, he⟩ := he
        split at he
        · rename_i hsz
          simp only [Option.some.injEq, Prod.mk.injEq] at he
          obtain ⟨rfl, rfl⟩ := he
          exact good_makeSlice h hop ht h1 h2 c1 c2 c3 c4 c5 hz hsz
        · cases he
      · cases he
    · cases he
  case slice t y lo hi mx =>
    split at he
    · cases he
    · rename_i hmx
      have hmx : mx = none := by cases mx <;> simp_all
      subst hmx
      split at he
      · rename_i n s ht hy
        simp only [Option.bind_eq_some_iff, Option.map_eq_some_iff, Prod.mk.injEq] at he
        obtain ⟨r, hr, l, hl, rfl, rfl⟩ := he
        exact good_slice_str h hop ht hy hr hl
      · rename_i e esz eb n xs ht hy
        simp only [Option.bind_eq_some_iff] at he
        obtain ⟨r, hr, l, hl, he⟩ := he
        split at he
        · rename_i hc
          simp only [Option.some.injEq, Prod.mk.injEq] at he
          obtain ⟨rfl, rfl⟩ := he
          exact good_slice_slice h hop ht hy hr hl hc.1 hc.2
        · cases he
      · rename_i e esz eb n oo ver off len ht hy
        split at he
        · rename_i obj hL
          split at he
          · rename_i hc
            simp only [Option.bind_eq_some_iff, Option.map_eq_some_iff, Prod.mk.injEq] at he
            obtain ⟨r, hr, l, hl, rfl, rfl⟩ := he
            exact good_slice_own h hop ht hy hL hc.1 hc.2.1 hc.2.2 hr hl
          · cases he
        · cases he
      · cases he
  case fieldAddr t y f =>
    split at he
    · rename_i fs n xs ht hy
      simp only [Option.bind_eq_some_iff] at he
      obtain ⟨fd, hfd, z, hz, he⟩ := he
      split at he
      · rename_i hc
        simp only [Option.some.injEq, Prod.mk.injEq] at he
        obtain ⟨rfl, rfl⟩ := he
        exact good_fieldAddr_ref h hop ht hy hfd hz hc.1 hc.2
      · cases he
    · rename_i fs n oo ver i path off ht hy
      simp only [Option.bind_eq_some_iff] at he
      obtain ⟨fd, hfd, obj, hL, he⟩ := he
      split at he
      · rename_i hc
        simp only [Option.some.injEq, Prod.mk.injEq] at he
        obtain ⟨rfl, rfl⟩ := he
        exact good_fieldAddr_addr h hop ht hy hfd hL hc.2 hc.1
      · cases he
    · cases he
  case field t y f =>
    split at he
    · rename_i fs n xs ht hy
      simp only [Option.bind_eq_some_iff] at he
      obtain ⟨fd, hfd, z, hz, he⟩ := he
      split at he
      · rename_i hc
        simp only [Option.some.injEq, Prod.mk.injEq] at he
        obtain ⟨rfl, rfl⟩ := he
        exact good_field h hop ht hy hfd hz hc.1 hc.2.1 hc.2.2.1 hc.2.2.2
      · cases he
    · cases he
  case indexAddr t y ix =>
    split at he
    · rename_i e esz eb n xs k i ht hy hi
      split at he
      · rename_i h0
        simp only [Option.bind_eq_some_iff] at he
        obtain ⟨z, hz, he⟩ := he
        split at he
        · rename_i hc
          simp only [Option.some.injEq, Prod.mk.injEq] at he
          obtain ⟨rfl, rfl⟩ := he
          exact good_indexAddr_slice h hop ht hy hi h0 hz hc.1 hc.2
        · cases he
      · cases he
    · rename_i e esz eb n oo ver off len k i ht hy hi
      split at he
      · rename_i obj hL
        split at he
        · rename_i hc
          obtain ⟨c1, c2, c3, c4, c5⟩ := hc
          simp only [Option.some.injEq, Prod.mk.injEq] at he
          obtain ⟨rfl, rfl⟩ := he
          exact good_indexAddr_own h hop ht hy hi hL c1 c2 c3 c4 c5
        · cases he
      · cases he
    · rename_i l e esz n xs k i ht hy hi
      split at he
      · rename_i hc
        obtain ⟨c1, c2, c3, c4⟩ := hc
        simp only [Option.bind_eq_some_iff, Option.some.injEq, Prod.mk.injEq] at he
        obtain ⟨z, hz, rfl, rfl⟩ := he
        exact good_indexAddr_arr_ref h hop ht hy hi c1 c2 hz c3 c4
      · cases he
    · rename_i l e esz n oo ver i' path off k i ht hy hi
      split at he
      · rename_i obj hL
        split at he
        · rename_i hc
          obtain ⟨c1, c2, c3, c4⟩ := hc
          simp only [Option.some.injEq, Prod.mk.injEq] at he
          obtain ⟨rfl, rfl⟩ := he
          exact good_indexAddr_arr_addr h hop ht hy hi hL c1 c2 c3 c4
        · cases he
      · cases he
    · cases he
  case index t y ix =>
    split at he
    · rename_i l e esz n xs k i ht hy hi
      split at he
      · rename_i hc
        obtain ⟨c1, c2, c3, c4⟩ := hc
        simp only [Option.bind_eq_some_iff] at he
        obtain ⟨z, hz, he⟩ := he
        split at he
        · rename_i hsh
          simp only [Option.some.injEq, Prod.mk.injEq] at he
          obtain ⟨rfl, rfl⟩ := he
          exact good_index_arr h hop ht hy hi c1 c2 hz c3 c4 hsh
        · cases he
      · cases he
    · rename_i n s k i ht hy hi
      split at he
      · rename_i h0
        simp only [Option.map_eq_some_iff, Prod.mk.injEq] at he
        obtain ⟨b, hb, rfl, rfl⟩ := he
        exact good_index_str h hop ht hy hi h0 hb
      · cases he
    · cases he
  case extract y i =>
    split at he
    · rename_i xs hy
      simp only [Option.map_eq_some_iff, Prod.mk.injEq] at he
      obtain ⟨z, hz, rfl, rfl⟩ := he
      exact good_extract h hop hy hz
    · cases he
  case call cl =>
    obtain ⟨callee, args, argTypes⟩ := cl
    cases callee
    case value f => simp only [aop] at he; cases he
    case invoke r m => simp only [aop] at he; cases he
    rename_i b
    cases b <;> simp only [aop] at he <;> try (cases he; done)
    case append =>
      split at he
      · rename_i t u x y hat hargs
        split at he
        · rename_i e esz eb n ku nu oo ver len ys ht hu hx hy
          split at he
          · rename_i obj hL
            split at he
            · rename_i hc
              obtain ⟨c1, c2, c3, c4, c5, c6, c7, c8, c9, c10, c11⟩ := hc
              obtain ⟨g1, g2⟩ := good_append h hop rfl hargs hat ht hu c1 c2 c3 hx hy hL c4 c5 c6 c7 c8 c9 c10 c11
              split at he
              · rename_i hys
                simp only [Option.some.injEq, Prod.mk.injEq] at he
                obtain ⟨rfl, rfl⟩ := he
                exact g1 hys
              · rename_i hys
                simp only [Option.some.injEq, Prod.mk.injEq] at he
                obtain ⟨rfl, rfl⟩ := he
                exact g2 hys
            · cases he
          · cases he
        · cases he
      · cases he
    case len =>
      split at he
      · rename_i t y ht hy
        split at he
        · rename_i n s hk hs
          simp only [Option.some.injEq, Prod.mk.injEq] at he
          obtain ⟨rfl, rfl⟩ := he
          exact good_len_str h hop rfl ht hy hk hs
        · rename_i hk
          simp only [Option.some.injEq, Prod.mk.injEq] at he
          obtain ⟨rfl, rfl⟩ := he
          exact good_len_arr h hop rfl ht hy hk
        · rename_i e esz eb n xs hk hs
          simp only [Option.some.injEq, Prod.mk.injEq] at he
          obtain ⟨rfl, rfl⟩ := he
          obtain ⟨ad, cap, hv, _⟩ := (hs ▸ h.rd y : VR _ (.slice xs) _).slice
          exact good_len_slice h hop rfl ht hy hk ⟨ad, cap, hv⟩
        · rename_i e esz eb n hk hs
          simp only [Option.some.injEq, Prod.mk.injEq] at he
          obtain ⟨rfl, rfl⟩ := he
          exact good_len_slice (l := 0) h hop rfl ht hy hk ⟨_, _, (hs ▸ h.rd y : VR _ .nilS _).nilS⟩
        · rename_i e esz eb n oo ver off len hk hs
          simp only [Option.bind_eq_some_iff] at he
          obtain ⟨obj, hL, he⟩ := he
          split at he
          · rename_i hv
            simp only [Option.some.injEq, Prod.mk.injEq] at he
            obtain ⟨rfl, rfl⟩ := he
            exact good_len_slice h hop rfl ht hy hk (len_own h hs hL hv)
          · cases he
        · cases he
      · cases he
    case max =>
      simp only [Option.map_eq_some_iff, Prod.mk.injEq] at he
      obtain ⟨z, hz, rfl, rfl⟩ := he
      exact good_max h hop rfl hz
    case min =>
      simp only [Option.map_eq_some_iff, Prod.mk.injEq] at he
      obtain ⟨z, hz, rfl, rfl⟩ := he
      exact good_min h hop rfl hz

end Go.Proofs.Ytpneikbihcoaaab.Vm
