/- A row appended to a row of the call's own (RoAp), beside the document's rounds and the laws of growing. -/
import Derived.Test.YtcejjcopchkmeaaRoZ
import Derived.Test.YtcejjcopchkmeaaRoL
import Derived.Test.YtcejjcopchkmeaaRoAp
