/- What the plain laws are about. -/
import Derived.Test.YtmkcbbamfkafmaaPx11
import Derived.Test.YtmkcbbamfkafmaaPx12
import Derived.Test.YtmkcbbamfkafmaaPx13
import Derived.Test.YtmkcbbamfkafmaaPx14
import Derived.Test.YtmkcbbamfkafmaaPx15
import Derived.Test.YtmkcbbamfkafmaaPx16
import Derived.Test.YtmkcbbamfkafmaaPx2
import Derived.Test.YtmkcbbamfkafmaaPx3
import Derived.Test.YtmkcbbamfkafmaaPx8
